import Derived.Tactics
import Derived.OrdersHeld
import Derived.ScopeJumps
set_option linter.unusedVariables false
set_option linter.unusedSimpArgs false
namespace Go.Sx
open Go

/-! ### Environments -/
abbrev Env := Nat → Option Value

def Env.ev (ρ : Env) : Operand → Option Value
  | .tmp t => ρ t
  | .const v => some v
  | .global g => some (.pointer (some ⟨g, 0, none⟩))
  | .func f => some (.func (.func f) #[] #[])

def Env.set (ρ : Env) (d : Nat) (v : Option Value) : Env := fun j => bif Nat.beq j d then v else ρ j

def Env.put (ρ : Env) (d : Option Nat) (v : Option Value) : Env :=
  match d with
  | none => ρ
  | some d => ρ.set d v

def Env.D (ρ : Env) (x : Operand) : Value := (ρ.ev x).getD undef

def known (ρ : Env) : List Operand → Bool
  | [] => true
  | x :: xs => match ρ.ev x with
    | some _ => known ρ xs
    | none => false

/-- What the environment knows is what the frame holds. -/
structure Agree (n : Nat) (ρ : Env) (a : Act) : Prop where
  size : a.tmps.size = n
  nodef : a.defers = []
  val : ∀ j v, ρ j = some v → a.tmps[j]? = some v

/-! ### The words of a printed program -/
/-- Run an operation that leaves a value. -/
def RUN (P : Program) (s : Sem Value) (w : World) (K : Value → World → Prop) : Prop :=
  match s.run P w with
  | .ok v w' => K v w'
  | _ => False

/-- An operation that looks at no memory. -/
def PURE (P : Program) (s : Sem Value) (K : Value → Prop) : Prop :=
  ∃ v, (∀ w, s.run P w = .ok v w) ∧ K v

def RUNU (P : Program) (s : Sem Unit) (w : World) (K : World → Prop) : Prop :=
  match s.run P w with
  | .ok _ w' => K w'
  | _ => False

/-- A quiet operation in a region that draws: it leaves the same value in each world that meets S. -/
def READ (P : Program) (S : World → Prop) (s : Sem Value) (w : World) (K : Value → Prop) : Prop :=
  ∃ v, s.run P w = .ok v w ∧ (∀ w', S w' → s.run P w' = .ok v w') ∧ K v

def COND (v : Value) (X Y : Prop) : Prop :=
  (v = .bool true ∧ X) ∨ (v = .bool false ∧ Y)

def callable (P : Program) (f : FuncId) : Bool :=
  match P.funcs[f]? with
  | some fn => !(fn.name == "runtime.NumGoroutine") && fn.body.isSome
  | none => false

def CALL (P : Program) (f : FuncId) (args : List Value) (w : World) (E : List PanicEntry → World → Prop) (K : Value → World → Prop) : Prop :=
  callable P f = true ∧ Calls P f args.toArray w fun
    | .returned v, w' => K v w'
    | .panicked c, w' => E c w'
    | .outgrown, _ => False

def CALLV (P : Program) (v : Value) (args : List Value) (w : World) (E : List PanicEntry → World → Prop) (K : Value → World → Prop) : Prop :=
  ∃ f first captured, v = .func (.func f) first captured ∧ CALL P f (first.toList ++ args ++ captured.toList) w E K

def PANIC (v : Value) (w : World) (E : List PanicEntry → World → Prop) : Prop :=
  match v with
  | .iface t x => E [{ v := .iface t x, recovered := false }] w
  | _ => False

def LOOP0 (B : World → (World → Prop) → Prop) (w : World) : Prop :=
  ∃ (I : World → Prop) (μ : World → Nat), I w ∧ ∀ w, I w → B w (fun w' => I w' ∧ μ w' < μ w)
def LOOP1 (B : Value → World → (Value → World → Prop) → Prop) (x : Value) (w : World) : Prop :=
  ∃ (I : Value → World → Prop) (μ : Value → World → Nat), I x w ∧ ∀ x w, I x w → B x w (fun x' w' => I x' w' ∧ μ x' w' < μ x w)
def LOOP2 (B : Value → Value → World → (Value → Value → World → Prop) → Prop) (x y : Value) (w : World) : Prop :=
  ∃ (I : Value → Value → World → Prop) (μ : Value → Value → World → Nat), I x y w ∧ ∀ x y w, I x y w → B x y w (fun x' y' w' => I x' y' w' ∧ μ x' y' w' < μ x y w)
def LOOP3 (B : Value → Value → Value → World → (Value → Value → Value → World → Prop) → Prop) (x y z : Value) (w : World) : Prop :=
  ∃ (I : Value → Value → Value → World → Prop) (μ : Value → Value → Value → World → Nat), I x y z w ∧ ∀ x y z w, I x y z w → B x y z w (fun x' y' z' w' => I x' y' z' w' ∧ μ x' y' z' w' < μ x y z w)
def LOOP4 (B : Value → Value → Value → Value → World → (Value → Value → Value → Value → World → Prop) → Prop) (x y z u : Value) (w : World) : Prop :=
  ∃ (I : Value → Value → Value → Value → World → Prop) (μ : Value → Value → Value → Value → World → Nat), I x y z u w ∧ ∀ x y z u w, I x y z u w → B x y z u w (fun x' y' z' u' w' => I x' y' z' u' w' ∧ μ x' y' z' u' w' < μ x y z u w)
def LOOP5 (B : Value → Value → Value → Value → Value → World → (Value → Value → Value → Value → Value → World → Prop) → Prop) (x y z u t : Value) (w : World) : Prop :=
  ∃ (I : Value → Value → Value → Value → Value → World → Prop) (μ : Value → Value → Value → Value → Value → World → Nat), I x y z u t w ∧ ∀ x y z u t w, I x y z u t w → B x y z u t w (fun x' y' z' u' t' w' => I x' y' z' u' t' w' ∧ μ x' y' z' u' t' w' < μ x y z u t w)

def JOIN0 (A : (World → Prop) → Prop) (B : World → Prop) : Prop := ∃ J : World → Prop, A J ∧ ∀ w, J w → B w
def JOIN1 (A : (Value → World → Prop) → Prop) (B : Value → World → Prop) : Prop := ∃ J : Value → World → Prop, A J ∧ ∀ x w, J x w → B x w
def JOIN2 (A : (Value → Value → World → Prop) → Prop) (B : Value → Value → World → Prop) : Prop := ∃ J : Value → Value → World → Prop, A J ∧ ∀ x y w, J x y w → B x y w
def JOIN3 (A : (Value → Value → Value → World → Prop) → Prop) (B : Value → Value → Value → World → Prop) : Prop := ∃ J : Value → Value → Value → World → Prop, A J ∧ ∀ x y z w, J x y z w → B x y z w

def LOADRES (P : Program) (t : TypeId) (v : Value) (w : World) (K : Value → Prop) : Prop :=
  ∃ x, (do loadVar t (← asAddr v) : Sem Value).run P w = .ok x w ∧ K x

/-! ### Operations -/
def NILS (x : Value) : Sem Value :=
  match x with
  | .pointer (some a) => pure (.pointer (some a))
  | .func (.func f) first captured => pure (.func (.func f) first captured)
  | .iface t v => pure (.iface t v)
  | _ => stuck ""
def PICKS (c a b : Value) : Sem Value := do pure (if ← asBool c then a else b)
def BINS (op : BinOp) (t : TypeId) (x y : Operand) (a b : Value) : Sem Value := do eqGuard op t x y a b; binOp op t a b

/-- An operation that leaves a value, its operands laid in. -/
def opV (ρ : Env) (o : Oper) : Option (Sem Value) :=
  match o.op with
  | .pick c a b => some (PICKS (ρ.D c) (ρ.D a) (ρ.D b))
  | .alloc e => some (Instr.alloc e true (.tuple #[]))
  | .box e x => some (Instr.box e (ρ.D x))
  | .build t ps => some (Instr.build t (ps.toList.map fun p => (p.1, ρ.D p.2)).toArray)
  | .buildSlice t n ps => some (Instr.buildSlice t n (ps.toList.map fun p => (p.1, ρ.D p.2)).toArray)
  | .load t a => some (Instr.loadAt t (ρ.D a))
  | .nilCheck x => some (NILS (ρ.D x))
  | .binOp op t x y _ => some (BINS op t x y (ρ.D x) (ρ.D y))
  | .unOp op _ x => some (Op.unary op (ρ.D x))
  | .convert s d x => some (convert s d (ρ.D x))
  | .makeInterface t x => some (Instr.makeInterface t (ρ.D x))
  | .makeFunc fn first captured => some (Instr.makeFunc fn (first.toList.map ρ.D).toArray (captured.toList.map ρ.D).toArray)
  | .makeMap t none => some (Instr.makeMap t none)
  | .makeSlice t l c => some (Instr.makeSlice t (ρ.D l) (ρ.D c))
  | .slice t x lo hi mx => some (Instr.sliceAt t (ρ.D x) (lo.map ρ.D) (hi.map ρ.D) (mx.map ρ.D))
  | .fieldAddr s x f => some (Instr.fieldAt s (ρ.D x) f)
  | .field t x f => some (Instr.field t (ρ.D x) f)
  | .indexAddr t x i => some (Instr.indexAt t (ρ.D x) (ρ.D i))
  | .index t x i => some (Instr.index t (ρ.D x) (ρ.D i))
  | .lookup t x i ok => some (Instr.lookup t (ρ.D x) (ρ.D i) ok)
  | .extract t i => some (Instr.extract (ρ.D t) i)
  | .typeAssert x t u ok => some (Instr.typeAssert (ρ.D x) t u ok)
  | .range t x => some (Instr.range t (ρ.D x))
  | .next it s => some (Instr.next (ρ.D it) s o.type)
  | .call { callee := .builtin b, args, argTypes } =>
    match b with
    | .append => some (Builtin.append_ argTypes o.type (args.toList.map ρ.D).toArray)
    | .cap => some (Builtin.cap_ argTypes o.type (args.toList.map ρ.D).toArray)
    | .copy => some (Builtin.copy_ argTypes o.type (args.toList.map ρ.D).toArray)
    | .len => some (Builtin.len_ argTypes o.type (args.toList.map ρ.D).toArray)
    | .max => some (Builtin.max_ argTypes o.type (args.toList.map ρ.D).toArray)
    | .min => some (Builtin.min_ argTypes o.type (args.toList.map ρ.D).toArray)
    | _ => none
  | _ => none

/-- An operation that leaves none. -/
def opU (ρ : Env) (o : Oper) : Option (Sem Unit) :=
  match o.op with
  | .store t a x => some (Instr.storeAt t (ρ.D a) (ρ.D x))
  | .mapUpdate t m k x => some (Instr.mapUpdate t (ρ.D m) (ρ.D k) (ρ.D x))
  | .insert t m k x => some (Instr.mapUpdate t (ρ.D m) (ρ.D k) (ρ.D x))
  | _ => none

/-- What an operation asks of memory: 0: nothing; 1: it reads; 2: it may write or make some. -/
def asks (P : Program) (o : Oper) : Nat :=
  match o.op with
  | .move _ | .assign _ | .pick .. | .build .. | .nilCheck _ | .binOp .. | .unOp .. | .makeInterface .. | .makeFunc ..
  | .slice .. | .fieldAddr .. | .field .. | .indexAddr .. | .index .. | .extract .. | .typeAssert .. => 0
  | .convert _ d _ => match P.underlying d with
    | some (.int _) => 0
    | some .string => 1
    | _ => 2
  | .load .. | .lookup .. => 1
  | .call { callee := .builtin b, .. } => match b with | .len | .cap | .max | .min => 0 | _ => 2
  | _ => 2

def waits (ops : Array Oper) (j i : Nat) : Bool :=
  match ops[j]? with
  | some o => o.after.any fun e => Region.binds .any e && e.on == i
  | none => false

def depsOf (ops : Array Oper) (j : Nat) : List Nat :=
  match ops[j]? with
  | some o => o.after.toList.filterMap fun e => bif Region.binds .any e then some e.on else none
  | none => []

/-- What must come up ahead of some, and they. -/
def clo (ops : Array Oper) : Nat → List Nat → List Nat
  | 0, s => s
  | f + 1, s => clo ops f ((s ++ s.flatMap (depsOf ops)).eraseDups)

/-- An operation behind which nothing is read any more, in whatever order. -/
def tailOf (P : Program) (ops : Array Oper) : Nat :=
  match (List.range ops.size).find? (fun e => (match ops[e]? with | some o => asks P o == 2 | none => false) &&
    (List.range ops.size).all fun r => (match ops[r]? with | some o => !(asks P o == 1) | none => true) || (clo ops 8 [e]).elem r) with
  | some e => e
  | none => ops.size

def dstOk (n : Nat) : Option Nat → Bool
  | none => true
  | some d => Nat.ble (d + 1) n

/-- One operation. -/
def stepX (P : Program) (n : Nat) (o : Oper) (ρ : Env) (E : List PanicEntry → World → Prop) (w : World) (K : Env → World → Prop) : Prop :=
  match dstOk n o.dst with
  | false => False
  | true =>
  match o.op with
  | .move x => K (ρ.put o.dst (ρ.ev x)) w
  | .assign x => K (ρ.put o.dst (ρ.ev x)) w
  | .call { callee := .value (.func f), args, argTypes := _ } =>
    match known ρ args.toList with
    | false => False
    | true => CALL P f (args.toList.map ρ.D) w E fun v w => K (ρ.put o.dst (some v)) w
  | .call { callee := .value x, args, argTypes := _ } =>
    match known ρ (x :: args.toList) with
    | false => False
    | true => CALLV P (ρ.D x) (args.toList.map ρ.D) w E fun v w => K (ρ.put o.dst (some v)) w
  | .panic x =>
    match known ρ [x] with
    | false => False
    | true => PANIC (ρ.D x) w E
  | _ =>
    match known ρ o.op.operands.toList with
    | false => False
    | true =>
      match opV ρ o with
      | some s => match asks P o with
        | 0 => PURE P s fun v => K (ρ.put o.dst (some v)) w
        | _ => RUN P s w fun v w => K (ρ.put o.dst (some v)) w
      | none => match opU ρ o with
        | some s => RUNU P s w fun w => K (ρ.put o.dst (some undef)) w
        | none => False

/-- A quiet operation in a region that draws. -/
def stepQ (P : Program) (n : Nat) (o : Oper) (ρ : Env) (S : World → Prop) (w : World) (K : Env → Prop) : Prop :=
  match dstOk n o.dst with
  | false => False
  | true =>
  match o.op with
  | .move x => K (ρ.put o.dst (ρ.ev x))
  | .assign x => K (ρ.put o.dst (ρ.ev x))
  | _ =>
    match known ρ o.op.operands.toList with
    | false => False
    | true =>
      match opV ρ o with
      | some s => match asks P o with
        | 0 => PURE P s fun v => K (ρ.put o.dst (some v))
        | 1 => READ P S s w fun v => K (ρ.put o.dst (some v))
        | _ => False
      | none => False

/-- A guarded operation: 'go true' where it is wanted. -/
def guardX (ops : Array Oper) (o : Oper) (dec : List Nat) (ρ : Env) (go : Bool → List Nat → Env → Prop) : Prop :=
  match o.guard with
  | none => go true dec ρ
  | some (j, want) =>
    match (ops[j]?).bind (·.dst) with
    | none => False
    | some t =>
      match dec.elem j with
      | true => match ρ t with
        | some (.bool b) => go (b == want) dec ρ
        | some (.tuple _) => go false dec ρ
        | _ => False
      | false => match ρ t with
        | some v => COND v (go want (j :: dec) (ρ.set t (some (.bool true)))) (go (!want) (j :: dec) (ρ.set t (some (.bool false))))
        | none => False

/-- A region in the text's order. -/
def compR (P : Program) (n : Nat) (ops : Array Oper) (E : List PanicEntry → World → Prop) (Q : Env → World → Prop) : Nat → List Oper → List Nat → Env → World → Prop
  | _, [], _, ρ, w => Q ρ w
  | i, o :: l, dec, ρ, w => guardX ops o dec ρ fun go dec ρ =>
    match go with
    | true => stepX P n o ρ E w fun ρ w => compR P n ops E Q (i + 1) l dec ρ w
    | false => match dstOk n o.dst with
      | true => compR P n ops E Q (i + 1) l (i :: dec) (ρ.put o.dst (some undef)) w
      | false => False

def allP (i : Nat) (l : List Nat) (g : Nat → Prop) : Prop :=
  match l with
  | [] => g i
  | j :: l => g i ∧ allP j l g

/-- What is known of the worlds to come, from here on: no less than before. -/
def KEEPS (S : World → Prop) (w : World) (B : (World → Prop) → Prop) : Prop := ∃ S' : World → Prop, (∀ w, S' w → S w) ∧ S' w ∧ B S'
theorem KEEP {S : World → Prop} {w : World} {B : (World → Prop) → Prop} (h : S w) (k : B S) : KEEPS S w B := ⟨S, fun _ h => h, h, k⟩

/-- S is to be shown anew, unless nothing is read any more. -/
def keeps (listed : Array Bool) (tl : Nat) (S : World → Prop) (w : World) (X : (World → Prop) → Prop) : Prop :=
  match listed.getD tl false with
  | true => X S
  | false => KEEPS S w X

/-- A region that draws: what is quiet first; behind each other operation S is shown anew. -/
def compD (P : Program) (n : Nat) (ops : Array Oper) (E : List PanicEntry → World → Prop) (Q : Env → World → Prop) (tl : Nat) : Nat → Array Bool → (World → Prop) → List Nat → Env → World → Prop
  | 0, listed, _, _, ρ, w => match Region.ready .any ops listed with
    | [] => Q ρ w
    | _ :: _ => False
  | f + 1, listed, S, dec, ρ, w =>
    match Region.ready .any ops listed with
    | [] => Q ρ w
    | i₀ :: rs =>
      match (i₀ :: rs).find? (fun i => (match ops[i]? with | some o => Nat.ble (asks P o) 1 | none => false) && Region.free .any ops listed i) with
      | some i => match ops[i]? with
        | none => False
        | some o => guardX ops o dec ρ fun go dec ρ =>
          match go with
          | true => stepQ P n o ρ S w fun ρ => compD P n ops E Q tl f (listed.setIfInBounds i true) S dec ρ w
          | false => match dstOk n o.dst with
            | true => compD P n ops E Q tl f (listed.setIfInBounds i true) S (i :: dec) (ρ.put o.dst (some undef)) w
            | false => False
      | none => allP i₀ rs fun i => match ops[i]? with
          | none => False
          | some o => guardX ops o dec ρ fun go dec ρ =>
            match go with
            | true => stepX P n o ρ E w fun ρ w => keeps (listed.setIfInBounds i true) tl S w fun S => compD P n ops E Q tl f (listed.setIfInBounds i true) S dec ρ w
            | false => match dstOk n o.dst with
              | true => compD P n ops E Q tl f (listed.setIfInBounds i true) S (i :: dec) (ρ.put o.dst (some undef)) w
              | false => False

/-- The worlds with the memory of one. -/
def SAME (w w' : World) : Prop := w'.heap = w.heap

/-- Is S shown anew nowhere? -/
def calm (P : Program) (ops : Array Oper) : Bool :=
  (List.range ops.size).all fun i => match ops[i]? with
    | some o => Nat.ble (asks P o) 1 || Nat.beq i (tailOf P ops) || (clo ops 8 [i]).elem (tailOf P ops)
    | none => true

def DRAWQ (w : World) (B : (World → Prop) → World → Prop) : Prop := B (SAME w) w.drew
def DRAW (w : World) (B : (World → Prop) → World → Prop) : Prop := ∃ S : World → Prop, S w.drew ∧ B S w.drew

/-! ### Code -/
def dstsOps : List Oper → List Nat
  | [] => []
  | o :: l => match o.dst with
    | some d => d :: dstsOps l
    | none => dstsOps l

/-- The slots that code writes. -/
def dsts : Code → List Nat
  | .region _ ops _ => dstsOps ops.toList ++ (ops.toList.filterMap fun o => o.guard.bind fun g => (ops[g.1]?).bind (·.dst))
  | .seq a b => dsts a ++ dsts b
  | .cond _ a b => dsts a ++ dsts b
  | .block _ c => dsts c
  | .loop c => dsts c
  | .scope c => dsts c
  | _ => []

/-- The number of the first region: a loop's name. -/
def headNo : Code → Nat
  | .region i _ _ => i
  | .seq a _ => headNo a
  | .block _ c => headNo c
  | .loop c => headNo c
  | .scope c => headNo c
  | .cond _ a b => match Nat.beq (headNo a) 999 with
    | true => headNo b
    | false => headNo a
  | .label l => 1000 + l
  | _ => 999

def Env.forget (ρ : Env) (l : List Nat) : Env := fun j => match l.elem j with
  | true => none
  | false => ρ j

def AnnList := List (Nat × List Nat)
def liveAt (an : List (Nat × List Nat)) (k : Nat) : List Nat :=
  match an with
  | [] => []
  | (i, l) :: r => bif Nat.beq i k then l else liveAt r k

def joinAt (an : List (Nat × List Nat)) (k : Nat) : Option (List Nat) :=
  match an with
  | [] => none
  | (i, l) :: r => bif Nat.beq i k then some l else joinAt r k

/-- Ways that meet: what is known behind them. -/
def joinX (live : List Nat) (ρm : Env) (first : (Env → World → Prop) → Prop) (rest : Env → World → Prop) : Prop :=
  match live with
  | [] => JOIN0 (fun J => first fun _ w => J w) (fun w => rest ρm w)
  | [a] => JOIN1 (fun J => first fun ρ w => match ρ a with
      | some x => J x w
      | none => False) (fun x w => rest (ρm.set a (some x)) w)
  | [a, b] => JOIN2 (fun J => first fun ρ w => match ρ a, ρ b with
      | some x, some y => J x y w
      | _, _ => False) (fun x y w => rest ((ρm.set a (some x)).set b (some y)) w)
  | [a, b, c] => JOIN3 (fun J => first fun ρ w => match ρ a, ρ b, ρ c with
      | some x, some y, some z => J x y z w
      | _, _, _ => False) (fun x y z w => rest (((ρm.set a (some x)).set b (some y)).set c (some z)) w)
  | _ => False

def joinKey (x y : Code) : Nat := 10000 + 1000 * headNo x + headNo y

def allIn : List Nat → List Nat → Bool
  | [], _ => true
  | a :: l, ms => match ms.elem a && !(l.elem a) with
    | true => allIn l ms
    | false => false

/-- A loop whose head knows the slots 'live'. 'body': what a round does, with what comes behind it. -/
def loopX (live : List Nat) (ρ ρm : Env) (w : World) (body : Env → World → (Env → World → Prop) → Prop) : Prop :=
  match live with
  | [] => LOOP0 (fun w next => body ρm w fun _ w => next w) w
  | [a] => match ρ a with
    | some x => LOOP1 (fun x w next => body (ρm.set a (some x)) w fun ρ w => match ρ a with
      | some x => next x w
      | none => False) x w
    | none => False
  | [a, b] => match ρ a, ρ b with
    | some x, some y => LOOP2 (fun x y w next => body ((ρm.set a (some x)).set b (some y)) w fun ρ w => match ρ a, ρ b with
      | some x, some y => next x y w
      | _, _ => False) x y w
    | _, _ => False
  | [a, b, c] => match ρ a, ρ b, ρ c with
    | some x, some y, some z => LOOP3 (fun x y z w next => body (((ρm.set a (some x)).set b (some y)).set c (some z)) w fun ρ w => match ρ a, ρ b, ρ c with
      | some x, some y, some z => next x y z w
      | _, _, _ => False) x y z w
    | _, _, _ => False
  | [a, b, c, d] => match ρ a, ρ b, ρ c, ρ d with
    | some x, some y, some z, some u => LOOP4 (fun x y z u w next => body ((((ρm.set a (some x)).set b (some y)).set c (some z)).set d (some u)) w fun ρ w => match ρ a, ρ b, ρ c, ρ d with
      | some x, some y, some z, some u => next x y z u w
      | _, _, _, _ => False) x y z u w
    | _, _, _, _ => False
  | [a, b, c, d, e] => match ρ a, ρ b, ρ c, ρ d, ρ e with
    | some x, some y, some z, some u, some t => LOOP5 (fun x y z u t w next => body (((((ρm.set a (some x)).set b (some y)).set c (some z)).set d (some u)).set e (some t)) w fun ρ w => match ρ a, ρ b, ρ c, ρ d, ρ e with
      | some x, some y, some z, some u, some t => next x y z u t w
      | _, _, _, _, _ => False) x y z u t w
    | _, _, _, _, _ => False
  | _ => False

def hasGoto : Code → Nat → Bool
  | .seq a b, l => hasGoto a l || hasGoto b l
  | .cond _ a b, l => hasGoto a l || hasGoto b l
  | .block _ c, l => hasGoto c l
  | .loop c, l => hasGoto c l
  | .scope c, l => hasGoto c l
  | .goto l', l => Nat.beq l' l
  | _, _ => false

/-- The label of a scope that is a loop's head. -/
def spineLab : Code → Option Nat
  | .seq x y => match x with
    | .label l => match hasGoto y l with
      | true => some l
      | false => spineLab y
    | _ => spineLab y
  | _ => none

def labs : Code → List Nat
  | .seq a b => labs a ++ labs b
  | .label l => [l]
  | _ => []

def clearLab (x y : Code) : Bool :=
  match spineLab y with
  | none => true
  | some l => !(labs x).elem l

/-- Code. 'sc': it is the body of a scope, whose label is a loop's head. -/
def comp (P : Program) (n : Nat) (an : List (Nat × List Nat)) (E : List PanicEntry → World → Prop) : Bool → Code → (Exit → Env → World → Prop) → Env → World → Prop
  | _, .skip, Q, ρ, w => Q .normal ρ w
  | _, .label _, Q, ρ, w => Q .normal ρ w
  | _, .exit id, Q, ρ, w => Q (.exit id) ρ w
  | _, .goto l, Q, ρ, w => Q (.goto l) ρ w
  | _, .ret, Q, ρ, w => Q .ret ρ w
  | _, .region _ ops draw, Q, ρ, w =>
    match draw with
    | false => compR P n ops E (Q .normal) 0 ops.toList [] ρ w
    | true => match P.follows .mixedOrders && Region.noSelect ops with
      | true => match calm P ops with
        | true => DRAWQ w fun S w => compD P n ops E (Q .normal) (tailOf P ops) ops.size (Array.replicate ops.size false) S [] ρ w
        | false => DRAW w fun S w => compD P n ops E (Q .normal) (tailOf P ops) ops.size (Array.replicate ops.size false) S [] ρ w
      | false => False
  | sc, .seq x y, Q, ρ, w =>
    match sc with
    | false => match joinAt an (joinKey x y) with
      | none => comp P n an E false x (fun e ρ w => match e with
        | .normal => comp P n an E false y Q ρ w
        | e => Q e ρ w) ρ w
      | some live => match allIn live (dsts x) with
        | false => False
        | true => joinX live (ρ.forget (dsts x)) (fun K => comp P n an E false x (fun e ρ w => match e with
          | .normal => K ρ w
          | e => Q e ρ w) ρ w) (fun ρ w => comp P n an E false y Q ρ w)
    | true => match (match x with | .label l => hasGoto y l | _ => false) with
      | true => match allIn (liveAt an (headNo x)) (dsts y) with
        | false => False
        | true => loopX (liveAt an (headNo x)) ρ (ρ.forget (dsts y)) w fun ρ w next =>
          comp P n an E false y (fun e ρ w => match e with
            | .goto l' => match Nat.beq (1000 + l') (headNo x) with
              | true => next ρ w
              | false => False
            | e => Q e ρ w) ρ w
      | false => match clearLab x y with
        | false => False
        | true => match joinAt an (joinKey x y) with
          | none => comp P n an E false x (fun e ρ w => match e with
            | .normal => comp P n an E true y Q ρ w
            | e => Q e ρ w) ρ w
          | some live => match allIn live (dsts x) with
            | false => False
            | true => joinX live (ρ.forget (dsts x)) (fun K => comp P n an E false x (fun e ρ w => match e with
              | .normal => K ρ w
              | e => Q e ρ w) ρ w) (fun ρ w => comp P n an E true y Q ρ w)
  | _, .cond c x y, Q, ρ, w =>
    match ρ.ev c with
    | some v => COND v (comp P n an E false x Q ρ w) (comp P n an E false y Q ρ w)
    | none => False
  | _, .block id c, Q, ρ, w => comp P n an E false c (fun e ρ w => match e with
    | .exit id' => match Nat.beq id' id with
      | true => Q .normal ρ w
      | false => Q (.exit id') ρ w
    | e => Q e ρ w) ρ w
  | _, .loop c, Q, ρ, w => match allIn (liveAt an (headNo c)) (dsts c) with
    | false => False
    | true => loopX (liveAt an (headNo c)) ρ (ρ.forget (dsts c)) w fun ρ w next =>
      comp P n an E false c (fun e ρ w => match e with
        | .normal => next ρ w
        | e => Q e ρ w) ρ w
  | _, .scope c, Q, ρ, w => comp P n an E true c (fun e ρ w => match e with
    | .goto _ => False
    | e => Q e ρ w) ρ w
  | _, _, _, _, _ => False

/-! ### The end -/
def RES (P : Program) (rs : List ResultVar) (ρ : Env) (w : World) (K : Value → Prop) : Prop :=
  match rs with
  | [] => K (.tuple #[])
  | [.tmp a] => match ρ a with
    | some v => K v
    | none => False
  | [.cell a t] => match ρ a with
    | some v => LOADRES P t v w K
    | none => False
  | [.tmp a, .tmp b] => match ρ a, ρ b with
    | some v, some u => K (.tuple #[v, u])
    | _, _ => False
  | [.tmp a, .tmp b, .tmp c] => match ρ a, ρ b, ρ c with
    | some v, some u, some t => K (.tuple #[v, u, t])
    | _, _, _ => False
  | _ => False

def bodyQ (P : Program) (rs : List ResultVar) (R : Ending → World → Prop) (e : Exit) (ρ : Env) (w : World) : Prop :=
  match e with
  | .normal => RES P rs ρ w fun v => R (.returned v) w
  | .ret => RES P rs ρ w fun v => R (.returned v) w
  | _ => False

def argEnv : Nat → List Value → Env
  | _, [] => fun _ => none
  | i, v :: vs => (argEnv (i + 1) vs).set i (some v)

end Go.Sx
