import Derived.Test.YtgjfhmahiiokeaaGreatEng
import Derived.Below
import Derived.Maps.AppendAt
import Derived.Deep.AppendLies
import Derived.Laws.OwnMore
import Derived.Laws.MakeOwn
import Derived.Laws.BytesArg
import Derived.Laws.IdiomCopy
import Derived.Laws.IdiomStrings
import Derived.Lib.ConvBytes
import Derived.IntWalk
import Derived.Laws.StructEq
import Derived.Laws.CopyRow
import Derived.ChangeKeysEq
import Derived.Lib.SlBytesConst
import Derived.Laws.BytesString
set_option linter.unusedVariables false
set_option linter.unusedSimpArgs false
namespace Go.Sx
open Go

/-! ### Calls that return -/
def Ends (R : Value → World → Prop) (E : List PanicEntry → World → Prop) : Ending → World → Prop
  | .returned v, w => R v w
  | .panicked c, w => E c w
  | .outgrown, _ => False

def NOPE : List PanicEntry → World → Prop := fun _ _ => False

/-- The call returns; R says what and in which world. -/
def RET (P : Program) (f : FuncId) (args : List Value) (w : World) (R : Value → World → Prop) : Prop :=
  callable P f = true ∧ Calls P f args.toArray w (Ends R NOPE)

theorem RET.mono {P : Program} {f : FuncId} {args : List Value} {w : World} {R R' : Value → World → Prop} (h : RET P f args w R) (hr : ∀ v w', R v w' → R' v w') : RET P f args w R' :=
  ⟨h.1, h.2.mono fun e w' he => by cases e <;> first | exact hr _ _ he | exact he.elim⟩

theorem CALL_of {P : Program} {f : FuncId} {args : List Value} {w : World} {E : List PanicEntry → World → Prop} {K R : Value → World → Prop} (h : RET P f args w R) (hk : ∀ v w', R v w' → K v w') : CALL P f args w E K :=
  ⟨h.1, h.2.mono fun e w' he => by cases e <;> first | exact hk _ _ he | exact he.elim⟩

theorem CALLV_of {P : Program} {f : FuncId} {first captured : Array Value} {args : List Value} {w : World} {E : List PanicEntry → World → Prop} {K R : Value → World → Prop}
    (h : RET P f (first.toList ++ args ++ captured.toList) w R) (hk : ∀ v w', R v w' → K v w') : CALLV P (.func (.func f) first captured) args w E K :=
  ⟨f, first, captured, rfl, CALL_of h hk⟩

theorem CALLI_of {P : Program} {t : TypeId} {x : Value} {m : String} {f : FuncId} {rcv : Value} {args : List Value} {w : World} {E : List PanicEntry → World → Prop} {K R : Value → World → Prop}
    (hm : (method (P.types.size + Made.depth) t x m).run P w = .ok (f, rcv) w) (h : RET P f (rcv :: args) w R) (hk : ∀ v w', R v w' → K v w') : CALLI P (.iface t x) m args w E K :=
  ⟨t, x, f, rcv, rfl, hm, CALL_of h hk⟩

theorem RET_calls {P : Program} {f : FuncId} {args : List Value} {w : World} {R : Value → World → Prop} (h : RET P f args w R) : Calls P f args.toArray w fun e w' => ∃ v, e = .returned v ∧ R v w' :=
  h.2.mono fun e w' he => by cases e <;> first | exact ⟨_, rfl, he⟩ | exact he.elim

/-! ### simp goes into the operation alone, never into what comes behind it -/
section
variable {P : Program} {S : World → Prop} {w : World}
@[congr] theorem PURE_congr {s s' : Sem Value} {K : Value → Prop} (h : s = s') : PURE P s K = PURE P s' K := by rw [h]
@[congr] theorem RUN_congr {s s' : Sem Value} {w' : World} {K : Value → World → Prop} (h : s = s') (hw : w = w') : RUN P s w K = RUN P s' w' K := by rw [h, hw]
@[congr] theorem RUNU_congr {s s' : Sem Unit} {w' : World} {K : World → Prop} (h : s = s') (hw : w = w') : RUNU P s w K = RUNU P s' w' K := by rw [h, hw]
@[congr] theorem READ_congr {s s' : Sem Value} {w' : World} {K : Value → Prop} (h : s = s') (hw : w = w') : READ P S s w K = READ P S s' w' K := by rw [h, hw]
@[congr] theorem COND_congr {v v' : Value} {X Y : Prop} (h : v = v') : COND v X Y = COND v' X Y := by rw [h]
@[congr] theorem CALL_congr {f : FuncId} {args args' : List Value} {w' : World} {E : List PanicEntry → World → Prop} {K : Value → World → Prop} (h : args = args') (hw : w = w') : CALL P f args w E K = CALL P f args' w' E K := by rw [h, hw]
@[congr] theorem CALLV_congr {v v' : Value} {args args' : List Value} {w' : World} {E : List PanicEntry → World → Prop} {K : Value → World → Prop} (hv : v = v') (h : args = args') (hw : w = w') : CALLV P v args w E K = CALLV P v' args' w' E K := by rw [hv, h, hw]
@[congr] theorem CALLI_congr {v v' : Value} {m : String} {args args' : List Value} {w' : World} {E : List PanicEntry → World → Prop} {K : Value → World → Prop} (hv : v = v') (h : args = args') (hw : w = w') : CALLI P v m args w E K = CALLI P v' m args' w' E K := by rw [hv, h, hw]
@[congr] theorem LOOP0_congr {B : World → (World → Prop) → Prop} {w' : World} (hw : w = w') : LOOP0 B w = LOOP0 B w' := by rw [hw]
@[congr] theorem LOOP1_congr {B : Value → World → (Value → World → Prop) → Prop} {x x' : Value} {w' : World} (h : x = x') (hw : w = w') : LOOP1 B x w = LOOP1 B x' w' := by rw [h, hw]
@[congr] theorem LOOP2_congr {B : Value → Value → World → (Value → Value → World → Prop) → Prop} {x x' y y' : Value} {w' : World} (h : x = x') (h2 : y = y') (hw : w = w') : LOOP2 B x y w = LOOP2 B x' y' w' := by rw [h, h2, hw]
@[congr] theorem LOOP3_congr {B : Value → Value → Value → World → (Value → Value → Value → World → Prop) → Prop} {x x' y y' z z' : Value} {w' : World} (h : x = x') (h2 : y = y') (h3 : z = z') (hw : w = w') : LOOP3 B x y z w = LOOP3 B x' y' z' w' := by rw [h, h2, h3, hw]
@[congr] theorem LOOP4_congr {B : Value → Value → Value → Value → World → (Value → Value → Value → Value → World → Prop) → Prop} {x x' y y' z z' u u' : Value} {w' : World} (h : x = x') (h2 : y = y') (h3 : z = z') (h4 : u = u') (hw : w = w') : LOOP4 B x y z u w = LOOP4 B x' y' z' u' w' := by rw [h, h2, h3, h4, hw]
@[congr] theorem LOOP5_congr {B : Value → Value → Value → Value → Value → World → (Value → Value → Value → Value → Value → World → Prop) → Prop} {x x' y y' z z' u u' t t' : Value} {w' : World} (h : x = x') (h2 : y = y') (h3 : z = z') (h4 : u = u') (h5 : t = t') (hw : w = w') : LOOP5 B x y z u t w = LOOP5 B x' y' z' u' t' w' := by rw [h, h2, h3, h4, h5, hw]
@[congr] theorem DRAW_congr {B : (World → Prop) → World → Prop} {w' : World} (hw : w = w') : DRAW w B = DRAW w' B := by rw [hw]
@[congr] theorem DRAWQ_congr {B : (World → Prop) → World → Prop} {w' : World} (hw : w = w') : DRAWQ w B = DRAWQ w' B := by rw [hw]
@[congr] theorem LOADRES_congr {t : TypeId} {v v' : Value} {w' : World} {K : Value → Prop} (h : v = v') (hw : w = w') : LOADRES P t v w K = LOADRES P t v' w' K := by rw [h, hw]
end

/-! ### How an operation goes, handed in -/
theorem PURE_eq {P : Program} {s : Sem Value} {v : Value} {K : Value → Prop} (h : ∀ w, s.run P w = .ok v w) : PURE P s K = K v := by
  refine propext ⟨?_, fun k => ⟨v, h, k⟩⟩
  rintro ⟨v', h', k⟩
  have := (h' default).symm.trans (h default)
  injection this with e
  exact e ▸ k

theorem RUN_eq {P : Program} {s : Sem Value} {v : Value} {w w' : World} {K : Value → World → Prop} (h : s.run P w = .ok v w') : RUN P s w K = K v w' := by
  unfold RUN
  rw [h]

theorem RUNU_eq {P : Program} {s : Sem Unit} {w w' : World} {K : World → Prop} (h : s.run P w = .ok () w') : RUNU P s w K = K w' := by
  unfold RUNU
  rw [h]

theorem RUN_ex {P : Program} {s : Sem Value} {w : World} {K : Value → World → Prop} (h : ∃ v w', s.run P w = .ok v w' ∧ K v w') : RUN P s w K := by
  obtain ⟨v, w', h, k⟩ := h
  rw [RUN_eq h]
  exact k

theorem READ_eq {P : Program} {S : World → Prop} {s : Sem Value} {v : Value} {w : World} {K : Value → Prop} (h : s.run P w = .ok v w) (hS : ∀ w', S w' → s.run P w' = .ok v w') : READ P S s w K = K v := by
  refine propext ⟨?_, fun k => ⟨v, h, hS, k⟩⟩
  rintro ⟨v', h', _, k⟩
  rw [h] at h'
  injection h' with e
  exact e ▸ k

/-! ### Frames -/
/-- But for the blocks of S, what was there is as it was. -/
structure Chg (S : Nat → Prop) (w w' : World) : Prop where
  os : w'.os = w.os
  tape : w'.tape = w.tape
  output : w'.output = w.output
  size : w.heap.size ≤ w'.heap.size
  block : ∀ k, k < w.heap.size → ¬ S k → w'.heap[k]? = w.heap[k]?

/-- Nothing that was there has changed. -/
abbrev Ext (w w' : World) : Prop := Chg (fun _ => False) w w'

theorem Chg.refl (S : Nat → Prop) (w : World) : Chg S w w := ⟨rfl, rfl, rfl, Nat.le_refl _, fun _ _ _ => rfl⟩
theorem Ext.refl (w : World) : Ext w w := Chg.refl _ w
theorem Chg.trans {S T : Nat → Prop} {a b c : World} (h : Chg S a b) (k : Chg T b c) : Chg (fun i => S i ∨ T i) a c :=
  ⟨k.os.trans h.os, k.tape.trans h.tape, k.output.trans h.output, Nat.le_trans h.size k.size, fun i hi hn => (k.block i (Nat.lt_of_lt_of_le hi h.size) (fun x => hn (.inr x))).trans (h.block i hi (fun x => hn (.inl x)))⟩
/-- What is written may be told anew, of the blocks that were there alone. -/
theorem Chg.weaken {S T : Nat → Prop} {a b : World} (h : Chg S a b) (hs : ∀ i, i < a.heap.size → S i → T i) : Chg T a b :=
  ⟨h.os, h.tape, h.output, h.size, fun i hi hn => h.block i hi (fun x => hn (hs i hi x))⟩
theorem Chg.then {S T U : Nat → Prop} {a b c : World} (h : Chg S a b) (k : Chg T b c) (hs : ∀ i, i < a.heap.size → S i → U i) (ht : ∀ i, i < a.heap.size → T i → U i) : Chg U a c :=
  (h.trans k).weaken fun i hi x => x.elim (hs i hi) (ht i hi)
theorem Ext.trans {a b c : World} (h : Ext a b) (k : Ext b c) : Ext a c := h.then k (fun _ _ x => x) (fun _ _ x => x)
theorem Ext.chg {S : Nat → Prop} {a b : World} (h : Ext a b) : Chg S a b := h.weaken fun _ _ x => x.elim
theorem Ext.drew (w : World) : Ext w w.drew := ⟨rfl, rfl, rfl, Nat.le_refl _, fun _ _ _ => rfl⟩
theorem Chg.drew {S : Nat → Prop} {a b : World} (h : Chg S a b) : Chg S a b.drew := ⟨h.os, h.tape, h.output, h.size, h.block⟩
theorem Chg.of_drew {S : Nat → Prop} {a b : World} (h : Chg S a.drew b) : Chg S a b := ⟨h.os, h.tape, h.output, h.size, h.block⟩
theorem Ext.alloc (w : World) (o : Obj) : Ext w (w.alloc o) := ⟨rfl, rfl, rfl, by simp, fun k hk _ => heap_alloc_old w o k hk⟩
theorem Chg.of_grownBy {w w' : World} {row : Option Nat} (h : w.grownBy w' row) : Chg (fun k => some k = row) w w' := ⟨h.os, h.tape, h.output, h.size, h.block⟩
theorem Chg.grownBy {w w' : World} {row : Option Nat} (h : Chg (fun k => some k = row) w w') : w.grownBy w' row := ⟨h.os, h.tape, h.output, h.size, h.block⟩
theorem Ext.of_grownBy {w w' : World} (h : w.grownBy w' none) : Ext w w' := ⟨h.os, h.tape, h.output, h.size, fun k hk _ => h.block k hk (by simp)⟩

theorem Chg.cell {S : Nat → Prop} {w w' : World} (h : Chg S w w') {a : Addr} {v : Value} (hc : w.cell? a = some v) (hs : ¬ S a.block) : w'.cell? a = some v :=
  (World.cell?_of_block (h.block a.block (World.block_lt_of_cell? w a hc) hs)).trans hc
theorem Ext.cell {w w' : World} (h : Ext w w') {a : Addr} {v : Value} (hc : w.cell? a = some v) : w'.cell? a = some v := Chg.cell h hc (fun x => x)

/-! ### A block known whole -/
def Own (w : World) (b : Nat) (cs : List Value) (ty : TypeId) : Prop := w.heap[b]? = some (.cells cs.toArray ty (0, 0))

theorem Own.lt {w : World} {b : Nat} {cs : List Value} {ty : TypeId} (h : Own w b cs ty) : b < w.heap.size := (Array.getElem?_eq_some_iff.1 h).1
theorem Own.chg {S : Nat → Prop} {w w' : World} {b : Nat} {cs : List Value} {ty : TypeId} (h : Own w b cs ty) (hc : Chg S w w') (hs : ¬ S b) : Own w' b cs ty := (hc.block b h.lt hs).trans h
theorem Own.ext {w w' : World} {b : Nat} {cs : List Value} {ty : TypeId} (h : Own w b cs ty) (hc : Ext w w') : Own w' b cs ty := h.chg hc (fun x => x)
theorem Own.cell {w : World} {b : Nat} {cs : List Value} {ty : TypeId} (h : Own w b cs ty) {i : Nat} {v : Value} (hi : cs[i]? = some v) : w.cell? ⟨b, i, none⟩ = some v := by
  simp [World.cell?, show w.heap[b]? = _ from h, hi]
theorem Own.drew {w : World} {b : Nat} {cs : List Value} {ty : TypeId} (h : Own w b cs ty) : Own w.drew b cs ty := h
theorem Own.alloc_new (w : World) (cs : List Value) (ty : TypeId) : Own (w.alloc (.cells cs.toArray ty)) w.heap.size cs ty := heap_alloc_new w _

end Go.Sx
namespace Go.Sx
open Go

/-! ### Operations that look at no memory -/
section
variable {P : Program} {K : Value → Prop}

theorem PURE_nils (a : Addr) : PURE P (NILS (.pointer (some a))) K = K (.pointer (some a)) := PURE_eq fun _ => rfl
theorem PURE_nilsf (f : FuncId) (x y : Array Value) : PURE P (NILS (.func (.func f) x y)) K = K (.func (.func f) x y) := PURE_eq fun _ => rfl
theorem PURE_nilsi (t : TypeId) (v : Value) : PURE P (NILS (.iface t v)) K = K (.iface t v) := PURE_eq fun _ => rfl
theorem PURE_pick1 (a b : Value) : PURE P (PICKS (.bool true) a b) K = K a := PURE_eq fun _ => rfl
theorem PURE_pick0 (a b : Value) : PURE P (PICKS (.bool false) a b) K = K b := PURE_eq fun _ => rfl
theorem PURE_not (b : Bool) : PURE P (Op.unary .not (.bool b)) K = K (.bool !b) := PURE_eq fun _ => rfl
theorem PURE_neg (n : Int) : PURE P (Op.unary .neg (.int .i64 n)) K = K (.int .i64 (RowKit.wrap64 (0 - n))) := PURE_eq fun _ => by
  show Result.ok _ _ = _
  rw [IntWalk.i64_left]

variable (t : TypeId) (x y : Operand)
theorem PURE_add (a b : Int) : PURE P (BINS .add t x y (.int .i64 a) (.int .i64 b)) K = K (.int .i64 (RowKit.wrap64 (a + b))) := PURE_eq fun _ => by
  show Result.ok _ _ = _
  rw [IntWalk.i64_left]
theorem PURE_sub (a b : Int) : PURE P (BINS .sub t x y (.int .i64 a) (.int .i64 b)) K = K (.int .i64 (RowKit.wrap64 (a - b))) := PURE_eq fun _ => by
  show Result.ok _ _ = _
  rw [IntWalk.i64_left]
theorem PURE_mul (a b : Int) : PURE P (BINS .mul t x y (.int .i64 a) (.int .i64 b)) K = K (.int .i64 (RowKit.wrap64 (a * b))) := PURE_eq fun _ => by
  show Result.ok _ _ = _
  rw [IntWalk.i64_left]
theorem PURE_arith_u (k : IntKind) (a b : Int) : PURE P (BINS .add t x y (.int k a) (.int k b)) K = K (.int k (k.wrap (a + b))) := PURE_eq fun _ => by
  simp [BINS, eqGuard, binOp, Op.intArith, pure, bind, Sem.bind, Sem.run]
theorem PURE_sub_u (k : IntKind) (a b : Int) : PURE P (BINS .sub t x y (.int k a) (.int k b)) K = K (.int k (k.wrap (a - b))) := PURE_eq fun _ => by
  simp [BINS, eqGuard, binOp, Op.intArith, pure, bind, Sem.bind, Sem.run]
theorem PURE_mul_u (k : IntKind) (a b : Int) : PURE P (BINS .mul t x y (.int k a) (.int k b)) K = K (.int k (k.wrap (a * b))) := PURE_eq fun _ => by
  simp [BINS, eqGuard, binOp, Op.intArith, pure, bind, Sem.bind, Sem.run]
theorem PURE_lss (k : IntKind) (a b : Int) : PURE P (BINS .lss t x y (.int k a) (.int k b)) K = K (.bool (decide (a < b))) := PURE_eq fun _ => by
  simp [BINS, eqGuard, binOp, Op.intCmp, pure, bind, Sem.bind, Sem.run]
theorem PURE_leq (k : IntKind) (a b : Int) : PURE P (BINS .leq t x y (.int k a) (.int k b)) K = K (.bool (decide (a ≤ b))) := PURE_eq fun _ => by
  simp [BINS, eqGuard, binOp, Op.intCmp, pure, bind, Sem.bind, Sem.run]
theorem PURE_gtr (k : IntKind) (a b : Int) : PURE P (BINS .gtr t x y (.int k a) (.int k b)) K = K (.bool (decide (b < a))) := PURE_eq fun _ => by
  simp [BINS, eqGuard, binOp, Op.intCmp, pure, bind, Sem.bind, Sem.run]
theorem PURE_geq (k : IntKind) (a b : Int) : PURE P (BINS .geq t x y (.int k a) (.int k b)) K = K (.bool (decide (b ≤ a))) := PURE_eq fun _ => by
  simp [BINS, eqGuard, binOp, Op.intCmp, pure, bind, Sem.bind, Sem.run]
theorem PURE_eql (k : IntKind) (a b : Int) : PURE P (BINS .eql t x y (.int k a) (.int k b)) K = K (.bool (decide (a = b))) := PURE_eq fun _ => by
  simp [BINS, eqGuard, binOp, Op.intCmp, pure, bind, Sem.bind, Sem.run]
  rfl
theorem PURE_neq (k : IntKind) (a b : Int) : PURE P (BINS .neq t x y (.int k a) (.int k b)) K = K (.bool (!decide (a = b))) := PURE_eq fun _ => by
  simp [BINS, eqGuard, binOp, Op.intCmp, pure, bind, Sem.bind, Sem.run]
  rfl
theorem PURE_quo (k : IntKind) (a b : Int) (h : b ≠ 0) : PURE P (BINS .quo t x y (.int k a) (.int k b)) K = K (.int k (k.wrap (a.tdiv b))) := PURE_eq fun _ => by
  simp [BINS, eqGuard, binOp, Op.intDiv, pure, bind, Sem.bind, Sem.run, h]
theorem PURE_rem (k : IntKind) (a b : Int) (h : b ≠ 0) : PURE P (BINS .rem t x y (.int k a) (.int k b)) K = K (.int k (a.tmod b)) := PURE_eq fun _ => by
  simp [BINS, eqGuard, binOp, Op.intDiv, pure, bind, Sem.bind, Sem.run, h]
theorem PURE_shr (k j : IntKind) (a b : Int) (h : 0 ≤ b) : PURE P (BINS .shr t x y (.int k a) (.int j b)) K = K (.int k (a.fdiv (2 ^ (min b.toNat k.bits)))) := PURE_eq fun _ => by
  simp [BINS, eqGuard, binOp, Op.shift, pure, bind, Sem.bind, Sem.run, show ¬ b < 0 by omega]
theorem PURE_shl (k j : IntKind) (a b : Int) (h : 0 ≤ b) : PURE P (BINS .shl t x y (.int k a) (.int j b)) K = K (.int k (k.wrap (a * 2 ^ (min b.toNat k.bits)))) := PURE_eq fun _ => by
  simp [BINS, eqGuard, binOp, Op.shift, pure, bind, Sem.bind, Sem.run, show ¬ b < 0 by omega]
theorem PURE_and (k : IntKind) (a b : Int) : PURE P (BINS .and t x y (.int k a) (.int k b)) K = K (.int k (k.wrap (BitVec.ofInt k.bits a &&& BitVec.ofInt k.bits b).toNat)) := PURE_eq fun _ => by
  simp [BINS, eqGuard, binOp, Op.intBits, pure, bind, Sem.bind, Sem.run]
theorem PURE_or (k : IntKind) (a b : Int) : PURE P (BINS .or t x y (.int k a) (.int k b)) K = K (.int k (k.wrap (BitVec.ofInt k.bits a ||| BitVec.ofInt k.bits b).toNat)) := PURE_eq fun _ => by
  simp [BINS, eqGuard, binOp, Op.intBits, pure, bind, Sem.bind, Sem.run]
theorem PURE_xor (k : IntKind) (a b : Int) : PURE P (BINS .xor t x y (.int k a) (.int k b)) K = K (.int k (k.wrap (BitVec.ofInt k.bits a ^^^ BitVec.ofInt k.bits b).toNat)) := PURE_eq fun _ => by
  simp [BINS, eqGuard, binOp, Op.intBits, pure, bind, Sem.bind, Sem.run]
theorem PURE_min (a b : Int) (u : Array TypeId) : PURE P (Builtin.min_ u t #[.int .i64 a, .int .i64 b]) K = K (.int .i64 (min a b)) := PURE_eq fun _ => by
  simp [Builtin.min_, Builtin.min2, pure, bind, Sem.bind, Sem.run]
  omega
theorem PURE_max (a b : Int) (u : Array TypeId) : PURE P (Builtin.max_ u t #[.int .i64 a, .int .i64 b]) K = K (.int .i64 (max a b)) := PURE_eq fun _ => by
  simp [Builtin.max_, Builtin.max2, pure, bind, Sem.bind, Sem.run]
  omega
theorem PURE_makeFunc (f : FuncId) (a b : Array Value) : PURE P (Instr.makeFunc (.func f) a b) K = K (.func (.func f) a b) := PURE_eq fun _ => rfl
theorem PURE_ext0 (a : Value) : PURE P (Instr.extract (.tuple #[a]) 0) K = K a := PURE_eq fun _ => rfl
theorem PURE_ext20 (a b : Value) : PURE P (Instr.extract (.tuple #[a, b]) 0) K = K a := PURE_eq fun _ => rfl
theorem PURE_ext21 (a b : Value) : PURE P (Instr.extract (.tuple #[a, b]) 1) K = K b := PURE_eq fun _ => rfl
theorem PURE_ext30 (a b c : Value) : PURE P (Instr.extract (.tuple #[a, b, c]) 0) K = K a := PURE_eq fun _ => rfl
theorem PURE_ext31 (a b c : Value) : PURE P (Instr.extract (.tuple #[a, b, c]) 1) K = K b := PURE_eq fun _ => rfl
theorem PURE_ext32 (a b c : Value) : PURE P (Instr.extract (.tuple #[a, b, c]) 2) K = K c := PURE_eq fun _ => rfl
end

theorem COND_true {X Y : Prop} : COND (.bool true) X Y = X := by simp [COND]
theorem COND_false {X Y : Prop} : COND (.bool false) X Y = Y := by simp [COND]
theorem COND_if {b : Bool} {X Y : Prop} : COND (.bool b) X Y = (if b = true then X else Y) := by cases b <;> simp [COND]
theorem COND_dec {p : Prop} [Decidable p] {X Y : Prop} : COND (.bool (decide p)) X Y = (if p then X else Y) := by by_cases h : p <;> simp [COND, h]
theorem COND_ndec {p : Prop} [Decidable p] {X Y : Prop} : COND (.bool (!decide p)) X Y = (if p then Y else X) := by by_cases h : p <;> simp [COND, h]
theorem COND_yes {b : Bool} {X Y : Prop} (h : b = true) : COND (.bool b) X Y = X := by subst h; exact COND_true
theorem COND_no {b : Bool} {X Y : Prop} (h : b = false) : COND (.bool b) X Y = Y := by subst h; exact COND_false

/-! ### Loads -/
def LDC (c : Option Value) (w : World) (K : Value → World → Prop) : Prop :=
  match c with
  | some v => K v w
  | none => False
theorem LDC_some (v : Value) (w : World) (K : Value → World → Prop) : LDC (some v) w K = K v w := rfl
@[congr] theorem LDC_congr {c c' : Option Value} {w w' : World} {K : Value → World → Prop} (h : c = c') (hw : w = w') : LDC c w K = LDC c' w' K := by rw [h, hw]
def LDR (c : Option Value) (K : Value → Prop) : Prop :=
  match c with
  | some v => K v
  | none => False
theorem LDR_some (v : Value) (K : Value → Prop) : LDR (some v) K = K v := rfl
@[congr] theorem LDR_congr {c c' : Option Value} {K : Value → Prop} (h : c = c') : LDR c K = LDR c' K := by rw [h]

def isAggT (P : Program) (t : TypeId) : Bool :=
  match P.underlying t with
  | some (.struct _) | some (.array _ _) => true
  | _ => false

theorem run_loadAt {P : Program} {t : TypeId} (ht : (P.underlying t).isSome = true) (hagg : isAggT P t = false) {w : World} {a : Addr} {v : Value} (h : w.cell? a = some v) : (Instr.loadAt t (.pointer (some a))).run P w = .ok v w := by
  obtain ⟨d, hd⟩ := Option.isSome_iff_exists.1 ht
  unfold isAggT at hagg
  rw [hd] at hagg
  simp only [Instr.loadAt, Instr.sureAddr, loadVar, isAgg, underlying, program, pure, bind, Sem.bind, Sem.run, hd]
  cases d <;> first | (simp at hagg; done) | simp [Sem.bind, load, Sem.run, h]

theorem RUN_load {P : Program} {t : TypeId} (ht : (P.underlying t).isSome = true) (hagg : isAggT P t = false) {w : World} {a : Addr} {K : Value → World → Prop} {v : Value} (h : w.cell? a = some v) :
    RUN P (Instr.loadAt t (.pointer (some a))) w K = K v w := RUN_eq (run_loadAt ht hagg h)

theorem READ_load {P : Program} {t : TypeId} (ht : (P.underlying t).isSome = true) (hagg : isAggT P t = false) {w : World} {a : Addr} {K : Value → Prop} {v : Value} (h : w.cell? a = some v) :
    READ P (SAME w) (Instr.loadAt t (.pointer (some a))) w.drew K = K v :=
  READ_eq (run_loadAt ht hagg h) fun w' hw => run_loadAt ht hagg (by rw [← h]; unfold World.cell?; rw [show w'.heap = w.heap from hw])

/-- What is kept of the worlds of a region: the blocks that were there, but for some. -/
def KP (X : Nat → Prop) (w w' : World) : Prop := ∀ b, b < w.heap.size → ¬ X b → w'.heap[b]? = w.heap[b]?
theorem KP.refl (X : Nat → Prop) (w : World) : KP X w w.drew := fun _ _ _ => rfl
theorem KP.cell {X : Nat → Prop} {w w' : World} (h : KP X w w') {a : Addr} {v : Value} (hc : w.cell? a = some v) (hx : ¬ X a.block) : w'.cell? a = some v :=
  (World.cell?_of_block (h a.block (World.block_lt_of_cell? w a hc) hx)).trans hc
theorem KP.of_chg {S X : Nat → Prop} {w w' : World} (h : Chg S w w') (hx : ∀ i, i < w.heap.size → S i → X i) : KP X w w' := fun b hb hn => h.block b hb (fun s => hn (hx b hb s))
theorem KP.of_ext {X : Nat → Prop} {w w' : World} (h : Ext w w') : KP X w w' := KP.of_chg h fun _ _ x => x.elim
theorem KP.then {S X : Nat → Prop} {w w1 w2 : World} (h : KP X w w1) (hs : w.heap.size ≤ w1.heap.size) (k : Chg S w1 w2) (hx : ∀ i, i < w.heap.size → S i → X i) : KP X w w2 :=
  fun b hb hn => (k.block b (Nat.lt_of_lt_of_le hb hs) (fun s => hn (hx b hb s))).trans (h b hb hn)

theorem KP.self (X : Nat → Prop) (w : World) : KP X w w := fun _ _ _ => rfl
theorem KP.trans_ext {X : Nat → Prop} {w w1 w2 : World} (h : Ext w w1) (k : KP X w1 w2) : KP X w w2 := fun b hb hx => (k b (Nat.lt_of_lt_of_le hb h.size) hx).trans (h.block b hb (fun x => x))
/-- From here on all that there is now is kept. -/
theorem KEEPK {w w3 : World} {B : (World → Prop) → Prop} (e : Ext w w3) (k : B (KP (fun _ => False) w3)) : KEEPS (KP (fun _ => False) w) w3 B := ⟨_, fun _ h => KP.trans_ext e h, fun _ _ _ => rfl, k⟩

theorem READ_loadK {P : Program} {t : TypeId} (ht : (P.underlying t).isSome = true) (hagg : isAggT P t = false) {X : Nat → Prop} {w w1 : World} {a : Addr} {K : Value → Prop} {v : Value} (h : w.cell? a = some v) (hx : ¬ X a.block) (hk : KP X w w1) :
    READ P (KP X w) (Instr.loadAt t (.pointer (some a))) w1 K = K v :=
  READ_eq (run_loadAt ht hagg (hk.cell h hx)) fun w' hw => run_loadAt ht hagg (hw.cell h hx)

/-- Many cells, one behind the other. -/
def cellsAt (w : World) (b : Nat) : Nat → Nat → Option (List Value)
  | _, 0 => some []
  | o, n + 1 => match w.cell? ⟨b, o, none⟩, cellsAt w b (o + 1) n with
    | some v, some l => some (v :: l)
    | _, _ => none

theorem addr_add (b o i : Nat) : (⟨b, o, none⟩ : Addr).add i = ⟨b, o + i, none⟩ := by
  unfold Addr.add
  split
  · rename_i h; subst h; rfl
  · rfl

theorem run_loadCellsFrom {P : Program} {w : World} {b o : Nat} : ∀ (n i : Nat) (acc : Array Value) (cs : List Value), cellsAt w b (o + i) n = some cs →
    (loadCellsFrom ⟨b, o, none⟩ i n acc).run P w = .ok (acc ++ cs.toArray) w
  | 0, i, acc, cs, h => by
    simp only [cellsAt, Option.some.injEq] at h
    subst h
    simp [loadCellsFrom, pure, Sem.run]
  | n + 1, i, acc, cs, h => by
    unfold cellsAt at h
    split at h
    · rename_i v l hv hl
      injection h with h
      subst h
      unfold loadCellsFrom
      simp only [bind, load, Sem.bind, Sem.run, addr_add, hv]
      rw [run_loadCellsFrom n (i + 1) (acc.push v) l (by rw [← hl, Nat.add_assoc])]
      simp
    · cases h

theorem run_loadAgg {P : Program} {t : TypeId} {n : Nat} (hagg : isAggT P t = true) (hs : (P.info? t).map (·.size) = some n) {w : World} {b o : Nat} {cs : List Value} (h : cellsAt w b o n = some cs) :
    (Instr.loadAt t (.pointer (some ⟨b, o, none⟩))).run P w = .ok (.agg cs.toArray) w := by
  obtain ⟨i, hi, hn⟩ := Option.map_eq_some_iff.1 hs
  unfold isAggT at hagg
  cases hd : P.underlying t with
  | none => rw [hd] at hagg; cases hagg
  | some d =>
    rw [hd] at hagg
    have hl := run_loadCellsFrom (P := P) (o := o) n 0 #[] cs (by simpa using h)
    simp only [Instr.loadAt, Instr.sureAddr, loadVar, isAgg, underlying, program, pure, bind, Sem.bind, Sem.run, hd]
    cases d <;> first
      | (simp at hagg; done)
      | (simp only [Sem.bind, sizeOf, typeInfo, program, pure, bind, Sem.run, if_true, hi, hn]
         rw [show (Sem.bind (loadCells ⟨b, o, none⟩ n) fun x => Sem.pure (Value.agg x)).run P w = _ from run_bind ..]
         rw [show loadCells ⟨b, o, none⟩ n = loadCellsFrom ⟨b, o, none⟩ 0 n #[] from rfl, hl]
         simp [Sem.run])

theorem cellsAt_heap {w w' : World} (b : Nat) (h : w'.heap[b]? = w.heap[b]?) : ∀ (n o : Nat), cellsAt w' b o n = cellsAt w b o n
  | 0, _ => rfl
  | n + 1, o => by
    unfold cellsAt
    rw [cellsAt_heap b h n (o + 1), show w'.cell? ⟨b, o, none⟩ = w.cell? ⟨b, o, none⟩ from World.cell?_of_block h]

theorem RUN_loadA {P : Program} {t : TypeId} {n : Nat} (hagg : isAggT P t = true) (hs : (P.info? t).map (·.size) = some n) {w : World} {b o : Nat} {cs : List Value} {K : Value → World → Prop} (h : cellsAt w b o n = some cs) :
    RUN P (Instr.loadAt t (.pointer (some ⟨b, o, none⟩))) w K = K (.agg cs.toArray) w := RUN_eq (run_loadAgg hagg hs h)

theorem READ_loadA {P : Program} {t : TypeId} {n : Nat} (hagg : isAggT P t = true) (hs : (P.info? t).map (·.size) = some n) {w : World} {b o : Nat} {cs : List Value} {K : Value → Prop} (h : cellsAt w b o n = some cs) :
    READ P (SAME w) (Instr.loadAt t (.pointer (some ⟨b, o, none⟩))) w.drew K = K (.agg cs.toArray) :=
  READ_eq (run_loadAgg hagg hs ((cellsAt_heap (w := w) (w' := w.drew) b rfl n o).trans h)) fun w' hw => run_loadAgg hagg hs ((cellsAt_heap b (by rw [show w'.heap = w.heap from hw]) n o).trans h)

theorem READ_loadAK {P : Program} {t : TypeId} {n : Nat} (hagg : isAggT P t = true) (hs : (P.info? t).map (·.size) = some n) {X : Nat → Prop} {w w1 : World} {b o : Nat} {cs : List Value} {K : Value → Prop} (h : cellsAt w b o n = some cs) (hb : b < w.heap.size) (hx : ¬ X b) (hk : KP X w w1) :
    READ P (KP X w) (Instr.loadAt t (.pointer (some ⟨b, o, none⟩))) w1 K = K (.agg cs.toArray) :=
  READ_eq (run_loadAgg hagg hs ((cellsAt_heap b (hk b hb hx) n o).trans h)) fun w' hw => run_loadAgg hagg hs ((cellsAt_heap b (hw b hb hx) n o).trans h)

theorem cellsAt_own {w : World} {b : Nat} {cs : List Value} {ty : TypeId} (h : Own w b cs ty) : ∀ (n o : Nat), o + n ≤ cs.length → cellsAt w b o n = some ((cs.drop o).take n)
  | 0, o, _ => by simp [cellsAt]
  | n + 1, o, ho => by
    unfold cellsAt
    have hlt : o < cs.length := by omega
    rw [h.cell (List.getElem?_eq_getElem hlt), cellsAt_own h n (o + 1) (by omega)]
    simp only [Option.some.injEq]
    rw [List.drop_eq_getElem_cons hlt, List.take_succ_cons]

theorem cell?_drew (w : World) (a : Addr) : w.drew.cell? a = w.cell? a := rfl

end Go.Sx
namespace Go.Sx
open Go

/-! ### What makes memory -/
theorem NEW {P : Program} {s : Sem Value} {v : Value} {w : World} {K : Value → World → Prop} {cs : List Value} {ty : TypeId} (hrun : s.run P w = .ok v (w.alloc (.cells cs.toArray ty)))
    (k : ∀ w', Own w' w.heap.size cs ty → Ext w w' → w'.heap.size = w.heap.size + 1 → K v w') : RUN P s w K := by
  rw [RUN_eq hrun]
  exact k _ (Own.alloc_new w cs ty) (Ext.alloc w _) (by simp)

/-- A new variable of one cell. -/
theorem BOX1 {P : Program} {t : TypeId} {v : Value} {w : World} {K : Value → World → Prop} (hv : v.cells = #[v])
    (k : ∀ w', Own w' w.heap.size [v] t → Ext w w' → w'.heap.size = w.heap.size + 1 → K (.pointer (some ⟨w.heap.size, 0, none⟩)) w') : RUN P (Instr.box t v) w K :=
  NEW (cs := [v]) (ty := t) (by
    show Result.ok _ (w.alloc (.cells v.cells t)) = _
    rw [hv]) k

theorem BOXA {P : Program} {t : TypeId} {cs : List Value} {w : World} {K : Value → World → Prop}
    (k : ∀ w', Own w' w.heap.size cs t → Ext w w' → w'.heap.size = w.heap.size + 1 → K (.pointer (some ⟨w.heap.size, 0, none⟩)) w') : RUN P (Instr.box t (.agg cs.toArray)) w K :=
  NEW (cs := cs) (ty := t) rfl k

theorem ALLOC {P : Program} {t : TypeId} {z : Value} {cs : List Value} {w : World} {K : Value → World → Prop} (hz : (P.info? t).map (·.zero) = some (some z)) (hcs : z.cells = cs.toArray)
    (k : ∀ w', Own w' w.heap.size cs t → Ext w w' → w'.heap.size = w.heap.size + 1 → K (.pointer (some ⟨w.heap.size, 0, none⟩)) w') : RUN P (Instr.alloc t true (.tuple #[])) w K := by
  obtain ⟨i, hi, hzi⟩ := Option.map_eq_some_iff.1 hz
  refine NEW (cs := cs) (ty := t) ?_ k
  simp only [Instr.alloc, zeroValue, typeInfo, program, pure, bind, Sem.bind, Sem.run, hi, hzi]
  show Result.ok _ (w.alloc (.cells z.cells t)) = _
  rw [hcs]

/-! ### Stores -/
theorem setCell_own {w : World} {b i : Nat} {cs : List Value} {ty : TypeId} (h : Own w b cs ty) (v : Value) : Own (w.setCell ⟨b, i, none⟩ v) b (cs.set i v) ty := by
  unfold Own World.setCell
  simp only
  rw [Array.getElem?_modify, if_pos rfl, show w.heap[b]? = _ from h]
  simp

theorem setCell_chg (w : World) (b i : Nat) (v : Value) : Chg (fun k => k = b) w (w.setCell ⟨b, i, none⟩ v) := by
  refine ⟨rfl, rfl, rfl, by simp [World.setCell], fun k hk hn => ?_⟩
  simp only [World.setCell]
  rw [Array.getElem?_modify]
  rw [if_neg (fun e => hn e.symm)]

theorem run_store {P : Program} {t : TypeId} {w : World} {b i : Nat} {cs : List Value} {ty : TypeId} {v : Value} (hs : (P.info? t).map (·.size) = some 1) (h : Own w b cs ty) (hi : i < cs.length) (hv : v.cells = #[v]) (h1 : v.oneCell' = true) :
    (Instr.storeAt t (.pointer (some ⟨b, i, none⟩)) v).run P w = .ok () (w.setCell ⟨b, i, none⟩ v) := by
  obtain ⟨inf, hinf, hn⟩ := Option.map_eq_some_iff.1 hs
  have hc := h.cell (List.getElem?_eq_getElem hi)
  have hf : w.frozen? ⟨b, i, none⟩ = false := by
    simp [World.frozen?, show w.heap[b]? = _ from h]
  simp only [Instr.storeAt, Instr.sureAddr, storeVar, sizeOf, typeInfo, program, pure, bind, Sem.bind, Sem.run, hinf, hn, hv]
  simp only [List.size_toArray, List.length_cons, List.length_nil, ne_eq, not_true, if_false, storeCells, store, bind, Sem.bind, pure]
  have ha : (⟨b, i, none⟩ : Addr).add 0 = ⟨b, i, none⟩ := by simp [Addr.add]
  rw [ha]
  cases v <;> first | (simp [Value.oneCell'] at h1; done) | simp [Sem.run, hc, hf]

theorem STORE {P : Program} {t : TypeId} {w : World} {b i : Nat} {cs : List Value} {ty : TypeId} {v : Value} {K : World → Prop} (hs : (P.info? t).map (·.size) = some 1) (h : Own w b cs ty) (hi : i < cs.length) (hv : v.cells = #[v]) (h1 : v.oneCell' = true)
    (k : ∀ w', Own w' b (cs.set i v) ty → Chg (fun k => k = b) w w' → w'.heap.size = w.heap.size → K w') : RUNU P (Instr.storeAt t (.pointer (some ⟨b, i, none⟩)) v) w K := by
  rw [RUNU_eq (run_store hs h hi hv h1)]
  exact k _ (setCell_own h v) (setCell_chg w b i v) (by simp [World.setCell])

/-- Cells that are turned, one behind the other. -/
def putAt (cs : List Value) : Nat → List Value → List Value
  | _, [] => cs
  | o, v :: vs => putAt (cs.set o v) (o + 1) vs

theorem putAt_length (vs : List Value) : ∀ (cs : List Value) (o : Nat), (putAt cs o vs).length = cs.length := by
  induction vs with
  | nil => intro cs o; rfl
  | cons v vs ih => intro cs o; rw [putAt, ih, List.length_set]

theorem run_storeCells_own {P : Program} {b o : Nat} {ty : TypeId} : ∀ (vs : List Value) (i : Nat) (cs : List Value) (w : World), Own w b cs ty → o + i + vs.length ≤ cs.length → (∀ v ∈ vs, v.oneCell' = true) →
    ∃ w', (storeCells ⟨b, o, none⟩ vs i).run P w = .ok () w' ∧ Own w' b (putAt cs (o + i) vs) ty ∧ Chg (fun k => k = b) w w' ∧ w'.heap.size = w.heap.size
  | [], i, cs, w, h, _, _ => ⟨w, rfl, h, Chg.refl _ w, rfl⟩
  | v :: vs, i, cs, w, h, hl, h1 => by
    simp only [List.length_cons] at hl
    have hi : o + i < cs.length := by omega
    have hc := h.cell (List.getElem?_eq_getElem hi)
    have hf : w.frozen? ⟨b, o + i, none⟩ = false := by simp [World.frozen?, show w.heap[b]? = _ from h]
    obtain ⟨w', hr, ho, hg, hz⟩ := run_storeCells_own (P := P) (o := o) vs (i + 1) (cs.set (o + i) v) (w.setCell ⟨b, o + i, none⟩ v) (setCell_own h v) (by rw [List.length_set]; omega) (fun u hu => h1 u (by simp [hu]))
    refine ⟨w', ?_, ?_, ?_, ?_⟩
    · unfold storeCells
      simp only [store, bind, Sem.bind, addr_add]
      have hv := h1 v (by simp)
      cases v <;> first | (simp [Value.oneCell'] at hv; done) | (simp only [Sem.run, hc, hf, Bool.false_eq_true, if_false]; exact hr)
    · rw [putAt]; rw [Nat.add_assoc] at *; exact ho
    · exact (setCell_chg w b (o + i) v).then hg (fun _ _ x => x) (fun _ _ x => x)
    · rw [hz]; simp [World.setCell]

theorem STOREA {P : Program} {t : TypeId} {n : Nat} {w : World} {b i : Nat} {cs vs : List Value} {ty : TypeId} {K : World → Prop} (hs : (P.info? t).map (·.size) = some n) (hn : vs.length = n) (h : Own w b cs ty) (hi : i + vs.length ≤ cs.length) (h1 : ∀ v ∈ vs, v.oneCell' = true)
    (k : ∀ w', Own w' b (putAt cs i vs) ty → Chg (fun k => k = b) w w' → w'.heap.size = w.heap.size → K w') : RUNU P (Instr.storeAt t (.pointer (some ⟨b, i, none⟩)) (.agg vs.toArray)) w K := by
  obtain ⟨inf, hinf, hn'⟩ := Option.map_eq_some_iff.1 hs
  obtain ⟨w', hr, ho, hg, hz⟩ := run_storeCells_own (P := P) (o := i) vs 0 cs w h (by omega) h1
  rw [RUNU_eq (w' := w')]
  · exact k w' (by simpa using ho) hg hz
  · have hcs : (Value.agg vs.toArray).cells.size = n := by simp [Value.cells, hn]
    simp only [Instr.storeAt, Instr.sureAddr, storeVar, sizeOf, typeInfo, program, pure, bind, Sem.bind, Sem.run, hinf, hn', hcs, ne_eq, not_true, if_false]
    exact hr

/-! ### Slices of the call's own -/
/-- append of what lies at an address, onto a row of the call's own. -/
theorem APPEND {P : Program} {t ty e : TypeId} {size bytes : Nat} {z : Value} {w : World} {K : Value → World → Prop} (ht : P.underlying t = some (.slice e)) (hinf : (P.info? e).map (fun i => (i.zero, i.size, i.bytes)) = some (some z, size, bytes))
    (hzs : z.cells.size = size) (hsz : 0 < size) {base n : Nat} {v : Value} {xs : List Value} (hown : w.ownsRow base e size v n xs) {ad : Addr} {m c : Nat} {news : List Value} (hl : news.length = m * size)
    (hnews : ∀ j u, news[j]? = some u → w.cell? (ad.add j) = some u) (h1 : ∀ u ∈ news, u.oneCell' = true) (hm : 0 < m) (h63 : n + m ≤ maxLen) (hbytes : (n + m) * bytes ≤ 140737488355328) (hbase : base ≤ w.heap.size)
    (k : ∀ g cap w', w'.ownsRow base e size (.slice (some ⟨g, 0, none⟩) (n + m) cap) (n + m) (xs ++ news) → Chg (fun j => some j = v.ownBlock) w w' → (v.ownBlock = some g ∨ g = w.heap.size) → K (.slice (some ⟨g, 0, none⟩) (n + m) cap) w') :
    RUN P (Builtin.append_ #[t, t] ty #[v, .slice (some ad) m c]) w K := by
  obtain ⟨i, hi, hzz⟩ := Option.map_eq_some_iff.1 hinf
  simp only [Prod.mk.injEq] at hzz
  obtain ⟨g, cap, w', hr, ho, hg, hb, _⟩ := run_append_lies (P := P) (w := w) t ty base e i z size bytes ht hi hzz.1 hzz.2.1 hzz.2.2 hzs hsz v n xs hown ad m c news hl hnews h1 hm h63 hbytes hbase w.heap.size rfl
  rw [RUN_eq hr]
  exact k g cap w' ho (Chg.of_grownBy hg) hb

/-- append of nothing. -/
theorem APPEND0 {P : Program} {t ty e : TypeId} {size : Nat} {w : World} {K : Value → World → Prop} (ht : P.underlying t = some (.slice e)) (hinf : (P.info? e).map (·.size) = some size) (a : Option Addr) (n c : Nat) (c' : Nat) (hn : n ≤ c) (k : K (.slice a n c) w) :
    RUN P (Builtin.append_ #[t, t] ty #[.slice a n c, .slice none 0 c']) w K := by
  obtain ⟨i, hi, hs⟩ := Option.map_eq_some_iff.1 hinf
  rw [RUN_eq (v := .slice a n c) (w' := w)]
  · exact k
  · simp only [Builtin.append_, List.getElem?_toArray, List.getElem?_cons_zero, List.getElem?_cons_succ, underlying, program, sizeOf, typeInfo, pure, bind, Sem.bind, Sem.run, ht, hi, Builtin.lenOf, Nat.add_zero, if_pos hn, Builtin.firstCells]
    cases a <;> simp [Sem.bind, Sem.run, Builtin.firstCells, pure, storeCells, bind, hn]

theorem MAKE {P : Program} {t e : TypeId} {z : Value} {bytes : Nat} {w : World} {K : Value → World → Prop} (ht : P.underlying t = some (.slice e)) (hinf : (P.info? e).map (fun i => (i.zero, i.size, i.bytes)) = some (some z, 1, bytes)) (hz1 : z.cells = #[z])
    {n : Nat} (hb : bytes * n ≤ 281474976710656) (h63 : n ≤ maxLen)
    (k : ∀ w', Own w' w.heap.size (List.replicate n z) e → Ext w w' → w.heap.size + 1 ≤ w'.heap.size → K (.slice (some ⟨w.heap.size, 0, none⟩) n n) w') : RUN P (Instr.makeSlice t (.int .i64 (n : Int)) (.int .i64 (n : Int))) w K := by
  obtain ⟨i, hi, hzz⟩ := Option.map_eq_some_iff.1 hinf
  simp only [Prod.mk.injEq] at hzz
  obtain ⟨w', hr, ho, hg⟩ := run_make_full (P := P) w 0 t e i z 1 ht hi hzz.1 hzz.2.1 .i64 .i64 n (by rw [hzz.2.2]; exact hb) h63 (Nat.zero_le _)
  rw [RUN_eq hr]
  have hcells : (madeCells z.cells (n * 1)).toList = List.replicate n z := by
    rw [Nat.mul_one, hz1]
    unfold madeCells
    apply List.ext_getElem
    · simp
    · intro j h1 h2
      simp [Nat.mod_one]
  rcases ho.2 with ⟨he, _⟩ | ⟨g, cap, cur, he, _, hh, hn, hm, hsz, htake⟩
  · cases he
  · injection he with e1 e2 e3
    injection e1 with e1
    injection e1 with e1
    subst e1
    subst e3
    refine k w' ?_ (Ext.of_grownBy hg) (by have := (Array.getElem?_eq_some_iff.1 hh).1; omega)
    unfold Own
    rw [hh]
    have : cur = (List.replicate n z).toArray := by
      apply Array.ext'
      simp only
      rw [← hcells]
      rw [← htake]
      rw [List.take_of_length_le]
      rw [Array.length_toList, hsz]
      exact Nat.le_refl _
    rw [this]

theorem MAKEMAP {P : Program} {t : TypeId} {w : World} {K : Value → World → Prop} (k : ∀ w', w'.heap[w.heap.size]? = some (.map #[] 0) → Ext w w' → w'.heap.size = w.heap.size + 1 → K (.map (some w.heap.size)) w') : RUN P (Instr.makeMap t none) w K := by
  rw [RUN_eq (v := .map (some w.heap.size)) (w' := w.alloc (.map #[] 0)) rfl]
  exact k _ (heap_alloc_new w _) (Ext.alloc w _) (by simp)

/-! ### Reading what came in -/
/-- Cells that are read through a slice. -/
def Rd (w : World) (A : Option Addr) (vs : List Value) : Prop := vs = [] ∨ ∃ b o, A = some ⟨b, o, none⟩ ∧ ∀ i v, vs[i]? = some v → w.cell? ⟨b, o + i, none⟩ = some v

theorem Rd.at {w : World} {A : Option Addr} {vs : List Value} (h : Rd w A vs) {i : Nat} (hi : i < vs.length) : ∃ b o, A = some ⟨b, o, none⟩ ∧ w.cell? ⟨b, o + i, none⟩ = some vs[i] := by
  rcases h with rfl | ⟨b, o, rfl, h⟩
  · simp at hi
  · exact ⟨b, o, rfl, h i _ (List.getElem?_eq_getElem hi)⟩
theorem Rd.chg {S : Nat → Prop} {w w' : World} {A : Option Addr} {vs : List Value} (h : Rd w A vs) (hc : Chg S w w') (hs : ∀ a, A = some a → ¬ S a.block) : Rd w' A vs := by
  rcases h with rfl | ⟨b, o, rfl, h⟩
  · exact .inl rfl
  · exact .inr ⟨b, o, rfl, fun i v hi => hc.cell (h i v hi) (show ¬ S b from hs ⟨b, o, none⟩ rfl)⟩
theorem Rd.ext {w w' : World} {A : Option Addr} {vs : List Value} (h : Rd w A vs) (hc : Ext w w') : Rd w' A vs := h.chg hc fun _ _ x => x
theorem Rd.lt {w : World} {A : Option Addr} {vs : List Value} (h : Rd w A vs) (hv : vs ≠ []) : ∃ b o, A = some ⟨b, o, none⟩ ∧ b < w.heap.size := by
  cases vs with
  | nil => exact (hv rfl).elim
  | cons v vs =>
    obtain ⟨b, o, e, hc⟩ := h.at (i := 0) (by simp)
    exact ⟨b, o, e, World.block_lt_of_cell? w _ hc⟩
theorem Rd.own {w : World} {b : Nat} {cs : List Value} {ty : TypeId} (h : Own w b cs ty) (o : Nat) {vs : List Value} (hv : ∀ i v, vs[i]? = some v → cs[o + i]? = some v) : Rd w (some ⟨b, o, none⟩) vs :=
  .inr ⟨b, o, rfl, fun i v hi => h.cell (hv i v hi)⟩

/-- A row of the call's own, as it is read. -/
theorem Rd.row {w : World} {base : Nat} {e : TypeId} {size n : Nat} {a : Option Addr} {c : Nat} {xs : List Value} (h : w.ownsRow base e size (.slice a n c) n xs) : Rd w a xs := by
  rcases h.2 with ⟨he, h0⟩ | ⟨g, cap, cur, he, _⟩
  · left
    have := h.1
    rw [h0] at this
    exact List.eq_nil_of_length_eq_zero (by simpa using this)
  · injection he with e1
    subst e1
    refine .inr ⟨g, 0, rfl, fun i v hi => ?_⟩
    have := h.cells (g := g) rfl i v hi
    rw [addr_add] at this
    exact this

theorem row_base {w : World} {base : Nat} {e : TypeId} {size n : Nat} {v : Value} {xs : List Value} (h : w.ownsRow base e size v n xs) (j : Nat) (hj : some j = v.ownBlock) : base ≤ j := (h.lt j hj.symm).1
theorem row_ext {w w' : World} {base : Nat} {e : TypeId} {size n : Nat} {v : Value} {xs : List Value} (h : w.ownsRow base e size v n xs) (hc : Ext w w') : w'.ownsRow base e size v n xs :=
  h.kept (row := none) ⟨hc.os, hc.tape, hc.output, hc.size, fun k hk _ => hc.block k hk (fun x => x)⟩ (by cases v.ownBlock <;> simp)
theorem row_chg {S : Nat → Prop} {w w' : World} {base : Nat} {e : TypeId} {size n : Nat} {v : Value} {xs : List Value} (h : w.ownsRow base e size v n xs) (hc : Chg S w w') (hs : ∀ k, v.ownBlock = some k → ¬ S k) : w'.ownsRow base e size v n xs := by
  refine ⟨h.1, ?_⟩
  rcases h.2 with hn | ⟨g, cap, cur, rfl, hb, hgg, rest⟩
  · exact .inl hn
  · refine .inr ⟨g, cap, cur, rfl, hb, ?_, rest⟩
    rw [hc.block g (Array.getElem?_eq_some_iff.1 hgg).1 (hs g rfl)]
    exact hgg

end Go.Sx
namespace Go.Sx
open Go

theorem STOREROW {P : Program} {t : TypeId} {w : World} {K : World → Prop} {base e size g n cap j : Nat} {xs : List Value} {v : Value} (hs : (P.info? t).map (·.size) = some 1) (h : w.ownsRow base e size (.slice (some ⟨g, 0, none⟩) n cap) n xs) (hj : j < n * size) (hv : v.cells = #[v]) (h1 : v.oneCell' = true)
    (k : ∀ w', w'.ownsRow base e size (.slice (some ⟨g, 0, none⟩) n cap) n (xs.set j v) → Chg (fun k => k = g) w w' → w'.heap.size = w.heap.size → K w') : RUNU P (Instr.storeAt t (.pointer (some ⟨g, j, none⟩)) v) w K := by
  rcases h.2 with ⟨he, _⟩ | ⟨g', cap', cur, he, hb, hh, hn, hm, hsz, htake⟩
  · cases he
  · injection he with e1 e2 e3
    injection e1 with e1
    injection e1 with e1
    subst e1
    subst e3
    have hown : Own w g cur.toList e := by simpa [Own] using hh
    have hlen : j < cur.toList.length := by
      rw [Array.length_toList, hsz]
      exact Nat.lt_of_lt_of_le hj (Nat.mul_le_mul_right _ hn)
    refine STORE hs hown hlen hv h1 fun w' ho hc hz => k w' ⟨by rw [List.length_set]; exact h.1, .inr ⟨g, cap, (cur.toList.set j v).toArray, rfl, hb, ho, hn, hm, by simp [hsz], ?_⟩⟩ hc hz
    simp only
    rw [← htake, List.take_set]

/-- A number, for a loop's measure. -/
def vnat : Value → Nat
  | .int _ n => n.toNat
  | _ => 0
theorem vnat_int (k : IntKind) (n : Int) : vnat (.int k n) = n.toNat := rfl

/-- Bytes, as they are held. -/
def vB (x : UInt8) : Value := .int .u8 x.toNat
def vI (x : Int) : Value := .int .i64 x
/-- A slice that reads as bytes. -/
def SlB (w : World) (v : Value) (l : List UInt8) : Prop := ∃ A c, v = .slice A l.length c ∧ Rd w A (l.map vB) ∧ l.length ≤ c ∧ l.length ≤ 140737488355328
/-- A slice that reads as numbers. -/
def SlI (w : World) (v : Value) (l : List Int) : Prop := ∃ A c, v = .slice A l.length c ∧ Rd w A (l.map vI) ∧ l.length ≤ c ∧ l.length ≤ 140737488355328
/-- A slice of texts. -/
def SlT (w : World) (v : Value) (ls : List (List UInt8)) : Prop := ∃ A c hs, v = .slice A ls.length c ∧ Rd w A hs ∧ hs.length = ls.length ∧ ls.length ≤ c ∧ ls.length ≤ 140737488355328 ∧ ∀ i (h : i < ls.length) (h' : i < hs.length), SlB w hs[i] ls[i]

theorem SlB.ext {w w' : World} {v : Value} {l : List UInt8} (h : SlB w v l) (hc : Ext w w') : SlB w' v l := by
  obtain ⟨A, c, h1, h2, h3⟩ := h
  exact ⟨A, c, h1, h2.ext hc, h3⟩
theorem SlI.ext {w w' : World} {v : Value} {l : List Int} (h : SlI w v l) (hc : Ext w w') : SlI w' v l := by
  obtain ⟨A, c, h1, h2, h3⟩ := h
  exact ⟨A, c, h1, h2.ext hc, h3⟩
theorem SlT.ext {w w' : World} {v : Value} {ls : List (List UInt8)} (h : SlT w v ls) (hc : Ext w w') : SlT w' v ls := by
  obtain ⟨A, c, hs, h1, h2, h3, h4, h5, h6⟩ := h
  exact ⟨A, c, hs, h1, h2.ext hc, h3, h4, h5, fun i hi hi' => (h6 i hi hi').ext hc⟩
/-- What a slice of bytes holds at a place. -/
theorem SlB.at {w : World} {v : Value} {l : List UInt8} (h : SlB w v l) {i : Nat} (hi : i < l.length) : ∃ b o c, v = .slice (some ⟨b, o, none⟩) l.length c ∧ w.cell? ⟨b, o + i, none⟩ = some (.int .u8 (l[i].toNat : Int)) := by
  obtain ⟨A, c, rfl, h2, _⟩ := h
  obtain ⟨b, o, rfl, hc⟩ := h2.at (i := i) (by simpa using hi)
  exact ⟨b, o, c, rfl, by simpa [vB] using hc⟩
theorem SlI.at {w : World} {v : Value} {l : List Int} (h : SlI w v l) {i : Nat} (hi : i < l.length) : ∃ b o c, v = .slice (some ⟨b, o, none⟩) l.length c ∧ w.cell? ⟨b, o + i, none⟩ = some (.int .i64 l[i]) := by
  obtain ⟨A, c, rfl, h2, _⟩ := h
  obtain ⟨b, o, rfl, hc⟩ := h2.at (i := i) (by simpa using hi)
  exact ⟨b, o, c, rfl, by simpa [vI] using hc⟩
theorem SlB.of_row {w : World} {base e n : Nat} {v : Value} {l : List UInt8} (h : w.ownsRow base e 1 v n (l.map vB)) (hl : l.length ≤ 140737488355328) : SlB w v l ∧ n = l.length := by
  have hn : n = l.length := by have := h.1; simp at this; omega
  subst hn
  rcases h.2 with ⟨rfl, h0⟩ | ⟨g, cap, cur, rfl, _, _, hle, _⟩
  · exact ⟨⟨none, 0, by rw [h0], by left; rw [List.eq_nil_of_length_eq_zero h0]; rfl, by omega, hl⟩, rfl⟩
  · exact ⟨⟨_, cap, rfl, Rd.row h, hle, hl⟩, rfl⟩
theorem SlI.of_row {w : World} {base e n : Nat} {v : Value} {l : List Int} (h : w.ownsRow base e 1 v n (l.map vI)) (hl : l.length ≤ 140737488355328) : SlI w v l ∧ n = l.length := by
  have hn : n = l.length := by have := h.1; simp at this; omega
  subst hn
  rcases h.2 with ⟨rfl, h0⟩ | ⟨g, cap, cur, rfl, _, _, hle, _⟩
  · exact ⟨⟨none, 0, by rw [h0], by left; rw [List.eq_nil_of_length_eq_zero h0]; rfl, by omega, hl⟩, rfl⟩
  · exact ⟨⟨_, cap, rfl, Rd.row h, hle, hl⟩, rfl⟩

/-- One more element of one cell, onto a row of the call's own. -/
theorem PUSH1 {P : Program} {t ty e : TypeId} {bytes : Nat} {z u : Value} {w : World} {K : Value → World → Prop} (ht : P.underlying t = some (.slice e)) (hinf : (P.info? e).map (fun i => (i.zero, i.size, i.bytes)) = some (some z, 1, bytes))
    (hzs : z.cells.size = 1) {base n : Nat} {v : Value} {xs : List Value} (hown : w.ownsRow base e 1 v n xs) {b c : Nat} (hb : Own w b [u] e)
    (h1 : u.oneCell' = true) (h63 : n + 1 ≤ maxLen) (hbytes : (n + 1) * bytes ≤ 140737488355328) (hbase : base ≤ w.heap.size)
    (k : ∀ v' w', w'.ownsRow base e 1 v' (n + 1) (xs ++ [u]) → Chg (fun j => some j = v.ownBlock) w w' → (v'.ownBlock = v.ownBlock ∨ v'.ownBlock = some w.heap.size) → K v' w') :
    RUN P (Builtin.append_ #[t, t] ty #[v, .slice (some ⟨b, 0, none⟩) 1 c]) w K := by
  refine APPEND ht hinf hzs (by omega) hown (news := [u]) rfl (fun j x hj => ?_) (by simpa using h1) (by omega) h63 hbytes hbase fun g cap w' ho hc hg => k _ w' ho hc ?_
  · cases j with
    | zero => simp at hj; subst hj; rw [addr_add]; exact hb.cell rfl
    | succ j => simp at hj
  · rcases hg with hg | hg
    · exact .inl (by rw [hg]; rfl)
    · exact .inr (by rw [hg]; rfl)

/-- A block of the call's own is another one than what was there. -/
theorem Chg.ext_of {w0 w w' : World} {S : Nat → Prop} (h : Ext w0 w) (k : Chg S w w') (hs : ∀ i, S i → w0.heap.size ≤ i) : Ext w0 w' :=
  h.then k (fun _ _ x => x) fun i hi x => by have := hs i x; omega

end Go.Sx
namespace Go.Sx
open Go

/-! ### Operations by the program's tables -/
section
variable {P : Program} {K : Value → Prop}

theorem PURE_index {t e : TypeId} {sz : Nat} (ht : P.underlying t = some (.slice e)) (hs : (P.info? e).map (·.size) = some sz) {k : IntKind} {b o n c : Nat} {i : Int} (h0 : 0 ≤ i) (h1 : i < (n : Int)) :
    PURE P (Instr.indexAt t (.slice (some ⟨b, o, none⟩) n c) (.int k i)) K = K (.pointer (some ⟨b, o + i.toNat * sz, none⟩)) := PURE_eq fun w => by
  obtain ⟨inf, hinf, hn⟩ := Option.map_eq_some_iff.1 hs
  simp [Instr.indexAt, asIntOf, underlying, program, sizeOf, typeInfo, pure, bind, Sem.bind, Sem.run, ht, hinf, hn, h0, h1, addr_add]

theorem PURE_indexA {t e : TypeId} {m sz : Nat} (ht : P.underlying t = some (.array m e)) (hs : (P.info? e).map (·.size) = some sz) {k : IntKind} {b o : Nat} {i : Int} (h0 : 0 ≤ i) (h1 : i < (m : Int)) :
    PURE P (Instr.indexAt t (.pointer (some ⟨b, o, none⟩)) (.int k i)) K = K (.pointer (some ⟨b, o + i.toNat * sz, none⟩)) := PURE_eq fun w => by
  obtain ⟨inf, hinf, hn⟩ := Option.map_eq_some_iff.1 hs
  simp [Instr.indexAt, Instr.sureAddr, asIntOf, underlying, program, sizeOf, typeInfo, pure, bind, Sem.bind, Sem.run, ht, hinf, hn, h0, h1, addr_add]

/-- Where a slice of a slice begins. -/
def sub (a : Option Addr) (c l sz : Nat) : Option Addr := if c = l then a else a.map (·.add (l * sz))

theorem PURE_slice {t e : TypeId} {sz : Nat} (ht : P.underlying t = some (.slice e)) (hs : (P.info? e).map (·.size) = some sz) {j k : IntKind} {a : Option Addr} {n c : Nat} {l h : Int} (h0 : 0 ≤ l) (h1 : l ≤ h) (h2 : h ≤ (c : Int)) :
    PURE P (Instr.sliceAt t (.slice a n c) (some (.int j l)) (some (.int k h)) none) K = K (.slice (sub a c l.toNat sz) (h.toNat - l.toNat) (c - l.toNat)) := PURE_eq fun w => by
  obtain ⟨inf, hinf, hn⟩ := Option.map_eq_some_iff.1 hs
  simp [Instr.sliceAt, Instr.slice, Instr.sliceBounds, Instr.sliceBound, asIntOf, underlying, program, sizeOf, typeInfo, pure, bind, Sem.bind, Sem.run, ht, hinf, hn, sub,
    show 0 ≤ h by omega, h2, h0, show l ≤ max h 0 by omega]
theorem PURE_slice_lo {t e : TypeId} {sz : Nat} (ht : P.underlying t = some (.slice e)) (hs : (P.info? e).map (·.size) = some sz) {j : IntKind} {a : Option Addr} {n c : Nat} {l : Int} (h0 : 0 ≤ l) (h1 : l ≤ (n : Int)) :
    PURE P (Instr.sliceAt t (.slice a n c) (some (.int j l)) none none) K = K (.slice (sub a c l.toNat sz) (n - l.toNat) (c - l.toNat)) := PURE_eq fun w => by
  obtain ⟨inf, hinf, hn⟩ := Option.map_eq_some_iff.1 hs
  simp [Instr.sliceAt, Instr.slice, Instr.sliceBounds, Instr.sliceBound, asIntOf, underlying, program, sizeOf, typeInfo, pure, bind, Sem.bind, Sem.run, ht, hinf, hn, sub, h0, h1]
theorem PURE_slice_hi {t e : TypeId} {sz : Nat} (ht : P.underlying t = some (.slice e)) (hs : (P.info? e).map (·.size) = some sz) {k : IntKind} {a : Option Addr} {n c : Nat} {h : Int} (h0 : 0 ≤ h) (h2 : h ≤ (c : Int)) :
    PURE P (Instr.sliceAt t (.slice a n c) none (some (.int k h)) none) K = K (.slice (sub a c 0 sz) h.toNat c) := PURE_eq fun w => by
  obtain ⟨inf, hinf, hn⟩ := Option.map_eq_some_iff.1 hs
  simp [Instr.sliceAt, Instr.slice, Instr.sliceBounds, Instr.sliceBound, asIntOf, underlying, program, sizeOf, typeInfo, pure, bind, Sem.bind, Sem.run, ht, hinf, hn, sub, h0, h2]
theorem PURE_slice3 {t e : TypeId} {sz : Nat} (ht : P.underlying t = some (.slice e)) (hs : (P.info? e).map (·.size) = some sz) {j k i : IntKind} {a : Option Addr} {n c : Nat} {l h m : Int} (h0 : 0 ≤ l) (h1 : l ≤ h) (h2 : h ≤ m) (h3 : m ≤ (c : Int)) :
    PURE P (Instr.sliceAt t (.slice a n c) (some (.int j l)) (some (.int k h)) (some (.int i m))) K = K (.slice (sub a m.toNat l.toNat sz) (h.toNat - l.toNat) (m.toNat - l.toNat)) := PURE_eq fun w => by
  obtain ⟨inf, hinf, hn⟩ := Option.map_eq_some_iff.1 hs
  simp [Instr.sliceAt, Instr.slice, Instr.sliceBounds, Instr.sliceBound, asIntOf, underlying, program, sizeOf, typeInfo, pure, bind, Sem.bind, Sem.run, ht, hinf, hn, sub, h0, h3,
    show 0 ≤ h by omega, show 0 ≤ m by omega, show h ≤ max m 0 by omega, show l ≤ max h 0 by omega]

theorem PURE_sindex {t : TypeId} (ht : P.underlying t = some .string) {k : IntKind} {s : ByteArray} {i : Int} (h0 : 0 ≤ i) (h1 : i < (s.size : Int)) :
    PURE P (Instr.index t (.string s) (.int k i)) K = K (.int .u8 ((s.data.toList.getD i.toNat 0).toNat : Int)) := PURE_eq fun w => by
  have hlt : i.toNat < s.size := by omega
  have hb : s[i.toNat]? = some s[i.toNat] := getElem?_pos s i.toNat hlt
  have hl : s.data.toList.getD i.toNat 0 = s[i.toNat] := by
    have : i.toNat < s.data.toList.length := by simpa using hlt
    rw [List.getD_eq_getElem?_getD, List.getElem?_eq_getElem this]
    rfl
  simp only [Instr.index, asIntOf, underlying, program, pure, bind, Sem.bind, Sem.run, ht, h0, if_true, hb, hl]
theorem PURE_aindex {t e : TypeId} {m sz : Nat} {d : TypeDesc} (ht : P.underlying t = some (.array m e)) (hd : P.underlying e = some d) (ha : isAggT P e = false) (hs : (P.info? e).map (·.size) = some sz) {k : IntKind} {cs : Array Value} {i : Int} {v : Value} (h0 : 0 ≤ i) (h1 : i < (m : Int)) (hv : cs[i.toNat * sz]? = some v) :
    PURE P (Instr.index t (.agg cs) (.int k i)) K = K v := PURE_eq fun w => by
  obtain ⟨inf, hinf, hn⟩ := Option.map_eq_some_iff.1 hs
  simp only [Instr.index, asIntOf, underlying, program, sizeOf, typeInfo, pure, bind, Sem.bind, Sem.run, ht, h0, h1, and_self, if_true, hinf, hn]
  unfold isAggT at ha
  rw [hd] at ha
  simp only [part, isAgg, underlying, program, pure, bind, Sem.bind, Sem.run, hd]
  cases d <;> first | (simp at ha; done) | simp [Sem.bind, Sem.run, hv]
theorem PURE_sslice {t : TypeId} (ht : P.underlying t = some .string) {j k : IntKind} {s : ByteArray} {l h : Int} (h0 : 0 ≤ l) (h1 : l ≤ h) (h2 : h ≤ (s.size : Int)) :
    PURE P (Instr.sliceAt t (.string s) (some (.int j l)) (some (.int k h)) none) K = K (.string (s.extract l.toNat h.toNat)) := PURE_eq fun w => by
  simp [Instr.sliceAt, Instr.slice, Instr.sliceBounds, Instr.sliceBound, asIntOf, underlying, program, pure, bind, Sem.bind, Sem.run, ht, show 0 ≤ h by omega, h2, h0, show l ≤ max h 0 by omega]
theorem PURE_sslice_lo {t : TypeId} (ht : P.underlying t = some .string) {j : IntKind} {s : ByteArray} {l : Int} (h0 : 0 ≤ l) (h1 : l ≤ (s.size : Int)) :
    PURE P (Instr.sliceAt t (.string s) (some (.int j l)) none none) K = K (.string (s.extract l.toNat s.size)) := PURE_eq fun w => by
  simp [Instr.sliceAt, Instr.slice, Instr.sliceBounds, Instr.sliceBound, asIntOf, underlying, program, pure, bind, Sem.bind, Sem.run, ht, h0, h1]
theorem PURE_sslice_hi {t : TypeId} (ht : P.underlying t = some .string) {k : IntKind} {s : ByteArray} {h : Int} (h0 : 0 ≤ h) (h2 : h ≤ (s.size : Int)) :
    PURE P (Instr.sliceAt t (.string s) none (some (.int k h)) none) K = K (.string (s.extract 0 h.toNat)) := PURE_eq fun w => by
  simp [Instr.sliceAt, Instr.slice, Instr.sliceBounds, Instr.sliceBound, asIntOf, underlying, program, pure, bind, Sem.bind, Sem.run, ht, h0, h2]

theorem sub_zero (a : Option Addr) (c sz : Nat) : sub a c 0 sz = a := by
  unfold sub
  split
  · rfl
  · cases a <;> simp [Addr.add]

theorem Rd_sub {w : World} {a : Option Addr} {vs : List Value} (h : Rd w a vs) {c l sz : Nat} (hc : vs.length ≤ c * sz) (us : List Value) (hu : ∀ i u, us[i]? = some u → vs[l * sz + i]? = some u) : Rd w (sub a c l sz) us := by
  unfold sub
  split
  · rename_i e
    left
    cases us with
    | nil => rfl
    | cons u us =>
      have := hu 0 u rfl
      have := (List.getElem?_eq_some_iff.1 this).1
      subst e
      omega
  · rcases h with rfl | ⟨b, o, rfl, h⟩
    · left
      cases us with
      | nil => rfl
      | cons u us => have := hu 0 u rfl; simp at this
    · exact .inr ⟨b, o + l * sz, by simp [addr_add], fun i v hi => by rw [Nat.add_assoc]; exact h _ _ (hu i v hi)⟩

/-! ### '==' of structs -/
theorem run_part {f : TypeId} {d : TypeDesc} (hd : P.underlying f = some d) (ha : isAggT P f = false) {cs : Array Value} {o : Nat} {v : Value} (hv : cs[o]? = some v) (w : World) : (part f cs o).run P w = .ok v w := by
  unfold isAggT at ha
  rw [hd] at ha
  simp only [part, isAgg, underlying, program, pure, bind, Sem.bind, Sem.run, hd]
  cases d <;> first | (simp at ha; done) | simp [Sem.bind, Sem.run, hv]

theorem eqF_nil {d : Nat} {xs ys : Array Value} {w : World} : (Op.eqFields d xs ys []).run P w = .ok true w := by simp [Op.eqFields]

theorem eqF_step {d : Nat} {xs ys : Array Value} {f : Field} {fs : List Field} {w : World} {a b : Value} {r s : Bool} (hn : (f.name == "_") = false) (ha : (part f.type xs f.offset).run P w = .ok a w) (hb : (part f.type ys f.offset).run P w = .ok b w)
    (he : (Op.equalIn d f.type a b).run P w = .ok r w) (hr : (Op.eqFields d xs ys fs).run P w = .ok s w) : (Op.eqFields d xs ys (f :: fs)).run P w = .ok (r && s) w := by
  have hn' : f.name ≠ "_" := by simpa using hn
  rw [Op.eqFields]
  simp only [if_pos hn', Sem.run_bind, ha, hb, he, Result.andThen_ok]
  cases r
  · simp
  · simpa using hr

theorem eqF_int {d : Nat} {xs ys : Array Value} {f : Field} {fs : List Field} {w : World} {k : IntKind} {a b : Int} {s : Bool} (hn : (f.name == "_") = false) (hu : P.underlying f.type = some (.int k)) (hx : xs[f.offset]? = some (.int k a)) (hy : ys[f.offset]? = some (.int k b))
    (hr : (Op.eqFields (d + 1) xs ys fs).run P w = .ok s w) : (Op.eqFields (d + 1) xs ys (f :: fs)).run P w = .ok (decide (a = b) && s) w := by
  have hagg : isAggT P f.type = false := by simp [isAggT, hu]
  refine eqF_step hn (run_part hu hagg hx w) (run_part hu hagg hy w) ?_ hr
  simp only [Op.equalIn, underlying, program, pure, bind, Sem.bind, Sem.run, hu, if_true]
  rfl

theorem eqF_bool {d : Nat} {xs ys : Array Value} {f : Field} {fs : List Field} {w : World} {a b : Bool} {s : Bool} (hn : (f.name == "_") = false) (hu : P.underlying f.type = some .bool) (hx : xs[f.offset]? = some (.bool a)) (hy : ys[f.offset]? = some (.bool b))
    (hr : (Op.eqFields (d + 1) xs ys fs).run P w = .ok s w) : (Op.eqFields (d + 1) xs ys (f :: fs)).run P w = .ok (decide (a = b) && s) w := by
  have hagg : isAggT P f.type = false := by simp [isAggT, hu]
  refine eqF_step hn (run_part hu hagg hx w) (run_part hu hagg hy w) ?_ hr
  simp only [Op.equalIn, underlying, program, pure, bind, Sem.bind, Sem.run, hu, if_true]
  cases a <;> cases b <;> rfl

theorem run_equal_struct {t : TypeId} {fs : Array Field} (ht : P.underlying t = some (.struct fs)) (hp : P.stoodInHeld t = false) {xs ys : Array Value} {w : World} {r : Bool} (h : (Op.eqFields 9999 xs ys fs.toList).run P w = .ok r w) :
    (Op.equal t (.agg xs) (.agg ys)).run P w = .ok r w := by
  have hf : P.fieldsOf t = fs := by simp [Program.fieldsOf, ht]
  show (Op.equalIn (9999 + 1) t _ _).run P w = _
  rw [run_equalIn_struct (P := P) w 9999 t xs ys (by rw [hf]; exact ht) hp, hf]
  exact h

theorem PURE_eqlS {t : TypeId} {x y : Operand} {xs ys : Array Value} {r : Bool} (hg : P.eqGuardType P.depth t = false) (h : ∀ w, (Op.equal t (.agg xs) (.agg ys)).run P w = .ok r w) : PURE P (BINS .eql t x y (.agg xs) (.agg ys)) K = K (.bool r) := PURE_eq fun w => by
  simp [BINS, eqGuard, binOp, program, pure, bind, Sem.bind, Sem.run, hg]
  rw [Sx.run_bind, h]
  rfl
theorem PURE_neqS {t : TypeId} {x y : Operand} {xs ys : Array Value} {r : Bool} (hg : P.eqGuardType P.depth t = false) (h : ∀ w, (Op.equal t (.agg xs) (.agg ys)).run P w = .ok r w) : PURE P (BINS .neq t x y (.agg xs) (.agg ys)) K = K (.bool (!r)) := PURE_eq fun w => by
  simp [BINS, eqGuard, binOp, program, pure, bind, Sem.bind, Sem.run, hg]
  rw [Sx.run_bind, h]
  rfl
theorem PURE_eqlV {t : TypeId} {x y : Operand} {a b : Value} {r : Bool} (h : ∀ w, (BINS .eql t x y a b).run P w = .ok (.bool r) w) : PURE P (BINS .eql t x y a b) K = K (.bool r) := PURE_eq h
end

end Go.Sx
namespace Go.Sx
open Go

/-! ### Maps from a number and a byte to a number -/
abbrev KV := (Int × Int) × Int
def keyE (n c : Int) : Value := .agg #[.int .i64 n, .int .u8 c]
def MapE (w : World) (m : Nat) (kvs : List KV) : Prop :=
  ∃ es clock, w.heap[m]? = some (.map es clock) ∧ es.toList.map (fun e => (e.key, e.val)) = kvs.map fun x => (keyE x.1.1 x.1.2, Value.int .i64 x.2)
def lookE : List KV → Int → Int → Option Int
  | [], _, _ => none
  | x :: r, n, c => if n = x.1.1 ∧ c = x.1.2 then some x.2 else lookE r n c
def updE : List KV → Int → Int → Int → List KV
  | [], n, c, v => [((n, c), v)]
  | x :: r, n, c, v => if n = x.1.1 ∧ c = x.1.2 then (x.1, v) :: r else x :: updE r n c v

theorem MapE.lt {w : World} {m : Nat} {kvs : List KV} (h : MapE w m kvs) : m < w.heap.size := by
  obtain ⟨es, clock, h, _⟩ := h
  exact (Array.getElem?_eq_some_iff.1 h).1
theorem MapE.chg {S : Nat → Prop} {w w' : World} {m : Nat} {kvs : List KV} (h : MapE w m kvs) (hc : Chg S w w') (hs : ¬ S m) : MapE w' m kvs := by
  have hlt := h.lt
  obtain ⟨es, clock, h, hh⟩ := h
  exact ⟨es, clock, (hc.block m hlt hs).trans h, hh⟩
theorem MapE.ext {w w' : World} {m : Nat} {kvs : List KV} (h : MapE w m kvs) (hc : Ext w w') : MapE w' m kvs := h.chg hc fun x => x

/-- What a type of keys must be. -/
structure KeyE (P : Program) (kt : TypeId) : Prop where
  check : ∀ e n c w, (Instr.checkKey e 10000 kt (keyE n c)).run P w = .ok () w
  eq : ∀ a b c d w, (Op.equal kt (keyE a c) (keyE b d)).run P w = .ok (decide (a = b) && (decide (c = d) && true)) w
  str : ∃ fs, P.underlying kt = some (.struct fs)

variable {P : Program}

theorem run_asking {kt : TypeId} (hk : KeyE P kt) (n c : Int) (w : World) : ∀ (es : List MapEntry) (kvs : List KV) (i : Nat), es.map (fun e => (e.key, e.val)) = kvs.map (fun x => (keyE x.1.1 x.1.2, Value.int .i64 x.2)) →
    ∃ r, (Instr.findAsking kt (keyE n c) es i).run P w = .ok r w ∧ (match r with
      | none => lookE kvs n c = none
      | some (j, v) => i ≤ j ∧ j - i < kvs.length ∧ lookE kvs n c = (kvs[j - i]?).map (·.2) ∧ (kvs[j - i]?).map (·.2) = some (match v with | .int _ x => x | _ => 0) ∧ v = .int .i64 (match v with | .int _ x => x | _ => 0) ∧
          (kvs[j - i]?).map (·.1) = some (n, c) ∧ ∀ u, updE kvs n c u = kvs.modify (j - i) (fun x => (x.1, u)))
  | [], kvs, i, h => by
    have : kvs = [] := by cases kvs with | nil => rfl | cons x r => simp at h
    subst this
    exact ⟨none, rfl, rfl⟩
  | e :: es, kvs, i, h => by
    cases kvs with
    | nil => simp at h
    | cons x r =>
      simp only [List.map_cons, List.cons.injEq, Prod.mk.injEq] at h
      unfold Instr.findAsking
      have he := hk.eq n x.1.1 c x.1.2 w
      rw [← h.1.1] at he
      by_cases hx : n = x.1.1 ∧ c = x.1.2
      · refine ⟨some (i, e.val), ?_, Nat.le_refl _, by simp, ?_, ?_, ?_, ?_, ?_⟩
        · show (Sem.bind (Op.equal kt (keyE n c) e.key) _).run P w = _
          rw [Sx.run_bind, he]
          simp [hx, pure, Sem.run]
        · simp [lookE, hx]
        · simp [h.1.2]
        · simp [h.1.2]
        · simp [hx]
        · intro u; simp [updE, hx]
      · obtain ⟨r', hr, hp⟩ := run_asking hk n c w es r (i + 1) h.2
        refine ⟨r', ?_, ?_⟩
        · show (Sem.bind (Op.equal kt (keyE n c) e.key) _).run P w = _
          rw [Sx.run_bind, he]
          have : (decide (n = x.1.1) && (decide (c = x.1.2) && true)) = false := by
            simp only [Bool.and_true, Bool.and_eq_false_iff, decide_eq_false_iff_not]
            by_cases h1 : n = x.1.1
            · exact .inr fun h2 => hx ⟨h1, h2⟩
            · exact .inl h1
          simp only [this]
          exact hr
        · cases r' with
          | none => simp only at hp ⊢; rw [lookE, if_neg hx]; exact hp
          | some jv =>
            obtain ⟨j, v⟩ := jv
            simp only at hp ⊢
            obtain ⟨h1, h2, h3, h4, h5, h6, h7⟩ := hp
            have e1 : j - i = (j - (i + 1)) + 1 := by omega
            refine ⟨by omega, by simp only [List.length_cons]; omega, ?_, ?_, h5, ?_, ?_⟩
            · rw [lookE, if_neg hx, h3, e1]; rfl
            · rw [e1]; exact h4
            · rw [e1]; exact h6
            · intro u; rw [updE, if_neg hx, h7, e1]; rfl

theorem run_findKey {kt : TypeId} (hk : KeyE P kt) (n c : Int) (w : World) (es : List MapEntry) :
    (Instr.findKey kt (keyE n c) es).run P w = (Instr.findAsking kt (keyE n c) es 0).run P w := by
  obtain ⟨fs, hs⟩ := hk.str
  simp only [Instr.findKey, underlying, program, pure, bind, Sem.bind, Sem.run, hs]
  cases es with
  | nil => rfl
  | cons e es => rfl

theorem run_lookE {mt kt et : TypeId} (hm : P.underlying mt = some (.map kt et)) (hz : (P.info? et).map (·.zero) = some (some (.int .i64 0))) (hk : KeyE P kt) {w : World} {m : Nat} {kvs : List KV} (h : MapE w m kvs) (n c : Int) :
    (Instr.lookup mt (.map (some m)) (keyE n c) true).run P w = .ok (.tuple #[.int .i64 ((lookE kvs n c).getD 0), .bool (lookE kvs n c).isSome]) w := by
  obtain ⟨es, clock, hh, he⟩ := h
  obtain ⟨inf, hinf, hzi⟩ := Option.map_eq_some_iff.1 hz
  obtain ⟨r, hr, hp⟩ := run_asking hk n c w es.toList kvs 0 he
  have hck := hk.check es.isEmpty n c w
  simp only [Instr.lookup, underlying, program, getObj, pure, bind, Sem.bind, Sem.run, hm, hh]
  show (Sem.bind (Instr.checkKey es.isEmpty 10000 kt (keyE n c)) _).run P w = _
  rw [Sx.run_bind, hck]
  simp only
  rw [Sx.run_bind, run_findKey hk, hr]
  cases r with
  | none =>
    simp only at hp
    simp [zeroValue, typeInfo, program, pure, bind, Sem.bind, Sem.run, hinf, hzi, hp]
  | some jv =>
    obtain ⟨j, v⟩ := jv
    simp only at hp
    obtain ⟨_, _, h3, h4, h5, _⟩ := hp
    rw [h3, h4]
    simp only [Sem.run, Option.getD_some, Option.isSome_some]
    rw [← h5]
    rfl

theorem READ_lookE {mt kt et : TypeId} (hm : P.underlying mt = some (.map kt et)) (hz : (P.info? et).map (·.zero) = some (some (.int .i64 0))) (hk : KeyE P kt) {w : World} {m : Nat} {kvs : List KV} {n c : Int} {K : Value → Prop} (h : MapE w m kvs) :
    READ P (SAME w) (Instr.lookup mt (.map (some m)) (.agg #[.int .i64 n, .int .u8 c]) true) w.drew K = K (.tuple #[.int .i64 ((lookE kvs n c).getD 0), .bool (lookE kvs n c).isSome]) :=
  READ_eq (run_lookE hm hz hk (show MapE w.drew m kvs from h) n c) fun w' hw => run_lookE hm hz hk (by
    obtain ⟨es, clock, h1, h2⟩ := h
    exact ⟨es, clock, by rw [show w'.heap = w.heap from hw]; exact h1, h2⟩) n c
theorem RUN_lookE {mt kt et : TypeId} (hm : P.underlying mt = some (.map kt et)) (hz : (P.info? et).map (·.zero) = some (some (.int .i64 0))) (hk : KeyE P kt) {w : World} {m : Nat} {kvs : List KV} {n c : Int} {K : Value → World → Prop} (h : MapE w m kvs) :
    RUN P (Instr.lookup mt (.map (some m)) (.agg #[.int .i64 n, .int .u8 c]) true) w K = K (.tuple #[.int .i64 ((lookE kvs n c).getD 0), .bool (lookE kvs n c).isSome]) w :=
  RUN_eq (run_lookE hm hz hk h n c)

theorem MAPUPD {mt kt et : TypeId} (hm : P.underlying mt = some (.map kt et)) (hk : KeyE P kt) {w : World} {m : Nat} {kvs : List KV} {n c v : Int} {K : World → Prop} (h : MapE w m kvs)
    (k : ∀ w', MapE w' m (updE kvs n c v) → Chg (fun j => j = m) w w' → w'.heap.size = w.heap.size → K w') : RUNU P (Instr.mapUpdate mt (.map (some m)) (.agg #[.int .i64 n, .int .u8 c]) (.int .i64 v)) w K := by
  have hlt := h.lt
  obtain ⟨es, clock, hh, he⟩ := h
  obtain ⟨r, hr, hp⟩ := run_asking hk n c w es.toList kvs 0 he
  have hck := hk.check false n c w
  have chg : ∀ o : Obj, Chg (fun j => j = m) w { w with heap := w.heap.setIfInBounds m o } := fun o =>
    ⟨rfl, rfl, rfl, by simp, fun j hj hn => by simp only; rw [Array.getElem?_setIfInBounds_ne (Ne.symm hn)]⟩
  have new : ∀ o : Obj, ({ w with heap := w.heap.setIfInBounds m o } : World).heap[m]? = some o := fun o => by simp [hlt]
  cases r with
  | none =>
    simp only at hp
    rw [RUNU_eq (w' := { w with heap := w.heap.setIfInBounds m (.map (es.push { key := keyE n c, val := .int .i64 v, born := clock }) (clock + 1)) })]
    · refine k _ ⟨_, _, new _, ?_⟩ (chg _) (by simp)
      have hu : ∀ (l : List KV), lookE l n c = none → updE l n c v = l ++ [((n, c), v)] := by
        intro l
        induction l with
        | nil => intro _; rfl
        | cons x l ih =>
          intro hl
          unfold lookE at hl
          split at hl
          · cases hl
          · rename_i hx
            rw [updE, if_neg hx, ih hl]; rfl
      rw [hu kvs hp]
      simp [he]
    · simp only [Instr.mapUpdate, underlying, program, getObj, pure, bind, Sem.bind, Sem.run, hm, hh]
      show (Sem.bind (Instr.checkKey false 10000 kt (keyE n c)) _).run P w = _
      rw [Sx.run_bind, hck]
      simp only
      rw [Sx.run_bind, show Value.agg #[.int .i64 n, .int .u8 c] = keyE n c from rfl, run_findKey hk, hr]
      simp [setObj, Sem.run, hh]
  | some jv =>
    obtain ⟨j, v0⟩ := jv
    simp only [Nat.sub_zero] at hp
    obtain ⟨_, h2, h3, h4, h5, h6, h7⟩ := hp
    have hes : es.size = kvs.length := by
      have := congrArg List.length he
      simpa using this
    have hkey : (es[j]?).map (·.key) = some (keyE n c) := by
      have e1 : (es.toList.map (fun e => (e.key, e.val)))[j]? = (kvs.map fun x => (keyE x.1.1 x.1.2, Value.int .i64 x.2))[j]? := by rw [he]
      simp only [List.getElem?_map] at e1
      have h6' : ∃ y, kvs[j]? = some y ∧ y.1 = (n, c) := by
        cases hy : kvs[j]? with
        | none => rw [hy] at h6; cases h6
        | some y => rw [hy] at h6; simp at h6; exact ⟨y, rfl, h6⟩
      obtain ⟨y, hy, hy1⟩ := h6'
      rw [hy] at e1
      have e2 : es.toList[j]? = es[j]? := by simp
      rw [e2] at e1
      cases hej : es[j]? with
      | none => rw [hej] at e1; cases e1
      | some e =>
        rw [hej] at e1
        simp only [Option.map_some, Option.some.injEq, Prod.mk.injEq] at e1
        simp [e1.1, hy1]
    have hsame : Instr.sameBits 10000 (keyE n c) (keyE n c) = true := by
      show Instr.sameBits (9999 + 1) (keyE n c) (keyE n c) = true
      simp [Instr.sameBits, keyE]
    rw [RUNU_eq (w' := { w with heap := w.heap.setIfInBounds m (.map (es.modify j fun e => { e with key := keyE n c, val := .int .i64 v }) clock) })]
    · refine k _ ⟨_, _, new _, ?_⟩ (chg _) (by simp)
      rw [h7 v]
      apply List.ext_getElem?
      intro i
      simp only [List.getElem?_map, Array.toList_modify, List.getElem?_modify]
      have e1 : (es.toList.map (fun e => (e.key, e.val)))[i]? = (kvs.map fun x => (keyE x.1.1 x.1.2, Value.int .i64 x.2))[i]? := by rw [he]
      simp only [List.getElem?_map] at e1
      by_cases hij : j = i
      · subst hij
        simp only [if_true]
        cases hej : es.toList[j]? with
        | none =>
          rw [hej] at e1
          cases hkj : kvs[j]? with
          | none => rfl
          | some y => rw [hkj] at e1; cases e1
        | some e =>
          rw [hej] at e1
          cases hkj : kvs[j]? with
          | none => rw [hkj] at e1; cases e1
          | some y =>
            rw [hkj] at h6
            simp at h6
            simp [h6]
      · simp only [if_neg hij]
        simpa using e1
    · simp only [Instr.mapUpdate, underlying, program, getObj, pure, bind, Sem.bind, Sem.run, hm, hh]
      show (Sem.bind (Instr.checkKey false 10000 kt (keyE n c)) _).run P w = _
      rw [Sx.run_bind, hck]
      simp only
      rw [Sx.run_bind, show Value.agg #[.int .i64 n, .int .u8 c] = keyE n c from rfl, run_findKey hk, hr]
      simp only
      have hkt : Instr.keyThatStays (((es[j]?).map (·.key)).getD (keyE n c)) (keyE n c) = .pure (keyE n c) := by
        rw [hkey]
        simp only [Option.getD_some, Instr.keyThatStays, hsame, if_true]
        rfl
      show (Sem.bind (Instr.keyThatStays (((es[j]?).map (·.key)).getD (keyE n c)) (keyE n c)) _).run P w = _
      rw [hkt]
      simp [Sem.bind, setObj, Sem.run, hh]

end Go.Sx
namespace Go.Sx
open Go

theorem RUN_mono {P : Program} {s : Sem Value} {w : World} {K K' : Value → World → Prop} (h : RUN P s w K) (hk : ∀ v w', K v w' → K' v w') : RUN P s w K' := by
  unfold RUN at *
  split at h <;> first | exact hk _ _ h | exact h
theorem RUNU_mono {P : Program} {s : Sem Unit} {w : World} {K K' : World → Prop} (h : RUNU P s w K) (hk : ∀ w', K w' → K' w') : RUNU P s w K' := by
  unfold RUNU at *
  split at h <;> first | exact hk _ h | exact h

/-! ### copy, and append of nothing -/
theorem COPY {P : Program} {dT sT ty e t : TypeId} (hu : P.underlying dT = some (.slice e)) (hs : (P.info? e).map (·.size) = some 1) {w : World} {K : Value → World → Prop} {g o n c n' c' : Nat} {a : Addr} {cur cs : List Value}
    (h : Own w g cur t) (hn : cs.length = Nat.min n' n) (hsrc : ∀ j v, cs[j]? = some v → w.cell? (a.add j) = some v) (hfit : o + cs.length ≤ cur.length) (h1 : ∀ v ∈ cs, v.oneCell' = true)
    (k : ∀ w', Own w' g (cur.take o ++ cs ++ cur.drop (o + cs.length)) t → Chg (fun j => j = g) w w' → w'.heap.size = w.heap.size → K (.int .i64 cs.length) w') :
    RUN P (Builtin.copy_ #[dT, sT] ty #[.slice (some ⟨g, o, none⟩) n c, .slice (some a) n' c']) w K := by
  have hr := run_copy_row P w dT sT ty e g o n c a n' c' cur.toArray t cs hu hs h hn hsrc (by simpa using hfit) h1
  rw [RUN_eq hr]
  refine k _ ?_ ⟨rfl, rfl, rfl, by simp [World.setRow], fun j hj hne => ?_⟩ (by simp [World.setRow])
  · have := setRow_heap w g cur.toArray (cur.take o ++ cs ++ cur.drop (o + cs.length)).toArray t (0, 0) h
    simpa [Own] using this
  · simp only [World.setRow]
    rw [Array.getElem?_modify, if_neg (fun e => hne e.symm)]

theorem COPY0 {P : Program} {dT sT ty e : TypeId} (hu : P.underlying dT = some (.slice e)) (hs : (P.info? e).map (·.size) = some 1) {w : World} {K : Value → World → Prop} {n c n' c' : Nat} {a d : Option Addr}
    (hn : Nat.min n' n = 0) (k : K (.int .i64 0) w) : RUN P (Builtin.copy_ #[dT, sT] ty #[.slice d n c, .slice a n' c']) w K := by
  rw [RUN_eq (run_copy_none (P := P) w dT sT ty e d a n c n' c' hu hs hn)]
  exact k

theorem APPENDZ {P : Program} {t ty e : TypeId} {size : Nat} {w : World} {K : Value → World → Prop} (ht : P.underlying t = some (.slice e)) (hinf : (P.info? e).map (·.size) = some size) (a b : Option Addr) (n c : Nat) (c' : Nat) (hn : n ≤ c) (k : K (.slice a n c) w) :
    RUN P (Builtin.append_ #[t, t] ty #[.slice a n c, .slice b 0 c']) w K := by
  obtain ⟨i, hi, hs⟩ := Option.map_eq_some_iff.1 hinf
  have hl : ∀ (x : Addr), (loadCells x 0).run P w = .ok #[] w := fun x => by simpa using run_loadCells_list (P := P) w x [] (by simp)
  rw [RUN_eq (v := .slice a n c) (w' := w)]
  · exact k
  · simp only [Builtin.append_, List.getElem?_toArray, List.getElem?_cons_zero, List.getElem?_cons_succ, underlying, program, sizeOf, typeInfo, pure, bind, Sem.bind, Sem.run, ht, hi, Builtin.lenOf, Nat.add_zero, if_pos hn, Builtin.firstCells]
    cases a <;> cases b <;> simp [Sem.bind, Sem.run, Builtin.firstCells, pure, storeCells, bind, hn] <;> (rw [Sx.run_bind, hl]; simp [Sem.bind, Sem.run, storeCells, pure])

/-! ### Slices of things of more cells -/
def SlG {α : Type} (enc : α → List Value) (w : World) (v : Value) (l : List α) : Prop := ∃ A c, v = .slice A l.length c ∧ Rd w A (l.flatMap enc) ∧ l.length ≤ c ∧ l.length ≤ 140737488355328

section
variable {α : Type} {enc : α → List Value} {w w' : World} {v : Value} {l : List α}
theorem SlG.ext (h : SlG enc w v l) (hc : Ext w w') : SlG enc w' v l := by
  obtain ⟨A, c, h1, h2, h3⟩ := h
  exact ⟨A, c, h1, h2.ext hc, h3⟩
theorem SlG.len (h : SlG enc w v l) : l.length ≤ 140737488355328 := by
  obtain ⟨A, c, h1, h2, h3, h4⟩ := h
  exact h4
theorem SlG.shape (h : SlG enc w v l) : ∃ A c, v = .slice A l.length c := by
  obtain ⟨A, c, rfl, _⟩ := h
  exact ⟨A, c, rfl⟩
theorem flatMap_len {size : Nat} (he : ∀ x, (enc x).length = size) (l : List α) : (l.flatMap enc).length = l.length * size := by
  induction l with
  | nil => simp
  | cons x l ih => simp only [List.flatMap_cons, List.length_append, he, ih, List.length_cons]; rw [Nat.add_mul]; omega
theorem flatMap_get {size : Nat} (he : ∀ x, (enc x).length = size) {l : List α} {i : Nat} (hi : i < l.length) {j : Nat} (hj : j < size) : (l.flatMap enc)[i * size + j]? = (enc l[i])[j]? := by
  induction l generalizing i with
  | nil => simp at hi
  | cons x l ih =>
    simp only [List.flatMap_cons]
    cases i with
    | zero => rw [List.getElem?_append_left (by rw [he]; omega)]; simp
    | succ i =>
      simp only [List.length_cons] at hi
      rw [List.getElem?_append_right (by rw [he, Nat.add_mul]; omega)]
      have : (i + 1) * size + j - (enc x).length = i * size + j := by rw [he, Nat.add_mul]; omega
      rw [this, ih (by omega)]
      simp
theorem SlG.at {size : Nat} (he : ∀ x, (enc x).length = size) (h0 : 0 < size) (h : SlG enc w v l) {i : Nat} (hi : i < l.length) : ∃ b o c, v = .slice (some ⟨b, o, none⟩) l.length c ∧ ∀ j (hj : j < size) u, (enc l[i])[j]? = some u → w.cell? ⟨b, o + i * size + j, none⟩ = some u := by
  obtain ⟨A, c, rfl, h2, _⟩ := h
  rcases h2 with hn | ⟨b, o, rfl, hc⟩
  · have := flatMap_len he l
    rw [hn] at this
    have : 0 < l.length * size := Nat.mul_pos (by omega) h0
    simp at *
    omega
  · refine ⟨b, o, c, rfl, fun j hj u hu => ?_⟩
    have := hc (i * size + j) u (by rw [flatMap_get he hi hj]; exact hu)
    rw [← Nat.add_assoc] at this
    exact this
theorem SlG.of_row {size base e n : Nat} (he : ∀ x, (enc x).length = size) (hp : 0 < size) (h : w.ownsRow base e size v n (l.flatMap enc)) (hl : l.length ≤ 140737488355328) : SlG enc w v l ∧ n = l.length := by
  have hn : n = l.length := by have := h.1; rw [flatMap_len he] at this; exact (Nat.eq_of_mul_eq_mul_right hp this).symm
  subst hn
  rcases h.2 with ⟨rfl, h0⟩ | ⟨g, cap, cur, rfl, _, _, hle, _⟩
  · exact ⟨⟨none, 0, by rw [h0], by left; rw [List.eq_nil_of_length_eq_zero h0]; rfl, by omega, hl⟩, rfl⟩
  · exact ⟨⟨_, cap, rfl, Rd.row h, hle, hl⟩, rfl⟩
end

theorem SlT.at {w : World} {v : Value} {ls : List (List UInt8)} (h : SlT w v ls) {i : Nat} (hi : i < ls.length) : ∃ b o c u, v = .slice (some ⟨b, o, none⟩) ls.length c ∧ w.cell? ⟨b, o + i, none⟩ = some u ∧ SlB w u ls[i] := by
  obtain ⟨A, c, hs, rfl, h2, h3, _, _, h4⟩ := h
  obtain ⟨b, o, rfl, hc⟩ := h2.at (i := i) (by omega)
  exact ⟨b, o, c, _, rfl, hc, h4 i hi (by omega)⟩
theorem SlT.shape {w : World} {v : Value} {ls : List (List UInt8)} (h : SlT w v ls) : ∃ A c, v = .slice A ls.length c := by
  obtain ⟨A, c, hs, rfl, _⟩ := h
  exact ⟨A, c, rfl⟩
theorem SlB.shape {w : World} {v : Value} {ls : List UInt8} (h : SlB w v ls) : ∃ A c, v = .slice A ls.length c := by
  obtain ⟨A, c, rfl, _⟩ := h
  exact ⟨A, c, rfl⟩
theorem SlI.shape {w : World} {v : Value} {ls : List Int} (h : SlI w v ls) : ∃ A c, v = .slice A ls.length c := by
  obtain ⟨A, c, rfl, _⟩ := h
  exact ⟨A, c, rfl⟩
theorem SlT.len {w : World} {v : Value} {ls : List (List UInt8)} (h : SlT w v ls) : ls.length ≤ 140737488355328 := by
  obtain ⟨A, c, hs, _, _, _, _, h, _⟩ := h
  exact h
theorem SlB.len {w : World} {v : Value} {ls : List UInt8} (h : SlB w v ls) : ls.length ≤ 140737488355328 := by
  obtain ⟨A, c, _, _, _, h⟩ := h
  exact h
theorem SlI.len {w : World} {v : Value} {ls : List Int} (h : SlI w v ls) : ls.length ≤ 140737488355328 := by
  obtain ⟨A, c, _, _, _, h⟩ := h
  exact h

theorem row_mono {w : World} {base base' : Nat} {e : TypeId} {size : Nat} {v : Value} {n : Nat} {xs : List Value} (h : w.ownsRow base e size v n xs) (hb : base' ≤ base) : w.ownsRow base' e size v n xs := by
  refine ⟨h.1, ?_⟩
  rcases h.2 with hn | ⟨g, cap, cur, rfl, hbb, rest⟩
  · exact .inl hn
  · exact .inr ⟨g, cap, cur, rfl, by omega, rest⟩
theorem row_cell {w : World} {base e g n cap : Nat} {xs : List Value} (h : w.ownsRow base e 1 (.slice (some ⟨g, 0, none⟩) n cap) n xs) {i : Nat} {v : Value} (hi : xs[i]? = some v) : w.cell? ⟨g, i, none⟩ = some v := by
  have hlt := (List.getElem?_eq_some_iff.1 hi).1
  rw [h.cellAt i (by have := h.1; omega)]
  exact hi
theorem row_own {w : World} {g e n size : Nat} {cs : List Value} (h : Own w g cs e) (hl : cs.length = n * size) (hm : n ≤ maxLen) (base : Nat) (hb : base ≤ g) : w.ownsRow base e size (.slice (some ⟨g, 0, none⟩) n n) n cs :=
  ⟨hl, .inr ⟨g, n, cs.toArray, rfl, hb, h, Nat.le_refl _, hm, by simpa using hl, by rw [List.take_of_length_le]; simp [hl]⟩⟩
theorem row_shape {w : World} {base e size n : Nat} {v : Value} {xs : List Value} (h : w.ownsRow base e size v n xs) : ∃ a c, v = .slice a n c ∧ n ≤ c := by
  rcases h.2 with ⟨rfl, rfl⟩ | ⟨g, cap, _, rfl, _, _, h, _⟩
  · exact ⟨_, _, rfl, Nat.le_refl _⟩
  · exact ⟨_, _, rfl, h⟩
/-- A row of the call's own that isn't nil lies in a block of its own. -/
theorem row_block {w : World} {base e size n : Nat} {v : Value} {xs : List Value} (h : w.ownsRow base e size v n xs) (hn : 0 < n) : ∃ g c, v = .slice (some ⟨g, 0, none⟩) n c ∧ base ≤ g ∧ g < w.heap.size := by
  rcases h.2 with ⟨rfl, rfl⟩ | ⟨g, cap, _, rfl, hb, hg, _⟩
  · omega
  · exact ⟨g, cap, rfl, hb, (Array.getElem?_eq_some_iff.1 hg).1⟩
theorem rows_ne {w : World} {base base' e e' n n' size size' k j : Nat} {xs ys : List Value} {v u : Value} (h : w.ownsRow base e size v n xs) (h' : w.ownsRow base' e' size' u n' ys) (hk : v.ownBlock = some k) (hj : u.ownBlock = some j) (hn : e ≠ e') : k ≠ j := by
  rintro rfl
  rcases h.2 with ⟨rfl, _⟩ | ⟨g, _, cur, rfl, _, hg, _⟩
  · cases hk
  · rcases h'.2 with ⟨rfl, _⟩ | ⟨g', _, cur', rfl, _, hg', _⟩
    · cases hj
    · simp [Value.ownBlock] at hk hj
      subst hk hj
      have := hg.symm.trans hg'
      injection this with this
      injection this with _ this
      exact hn this

/-! ### Results that are named; arrays -/
theorem LOADRES_A {P : Program} {t : TypeId} {n : Nat} (hagg : isAggT P t = true) (hs : (P.info? t).map (·.size) = some n) {w : World} {b o : Nat} {cs : List Value} {K : Value → Prop} (h : cellsAt w b o n = some cs) (k : K (.agg cs.toArray)) : LOADRES P t (.pointer (some ⟨b, o, none⟩)) w K :=
  ⟨.agg cs.toArray, run_loadAgg hagg hs h, k⟩
theorem cellsAt_whole {w : World} {b : Nat} {cs : List Value} {ty : TypeId} (h : Own w b cs ty) {n : Nat} (hn : cs.length = n) : cellsAt w b 0 n = some cs := by
  rw [cellsAt_own h n 0 (by omega), List.drop_zero, List.take_of_length_le (by omega)]

theorem eqI_nil {d c : Nat} {e : TypeId} {xs ys : Array Value} {P : Program} {w : World} : (Op.eqItems d e c xs ys []).run P w = .ok true w := by simp [Op.eqItems]
theorem eqI_step {d c : Nat} {e : TypeId} {xs ys : Array Value} {P : Program} {w : World} {i : Nat} {is : List Nat} {k : IntKind} {a b : Int} {s : Bool} (hu : P.underlying e = some (.int k)) (hx : xs[i * c]? = some (.int k a)) (hy : ys[i * c]? = some (.int k b)) (hr : (Op.eqItems (d + 1) e c xs ys is).run P w = .ok s w) :
    (Op.eqItems (d + 1) e c xs ys (i :: is)).run P w = .ok (decide (a = b) && s) w := by
  have hagg : isAggT P e = false := by simp [isAggT, hu]
  have h1 : (Op.equalIn (d + 1) e (.int k a) (.int k b)).run P w = .ok (decide (a = b)) w := by
    simp only [Op.equalIn, underlying, program, pure, bind, Sem.bind, Sem.run, hu, if_true]
    rfl
  simp only [Op.eqItems, Sem.run_bind, run_part hu hagg hx, run_part hu hagg hy, h1, Result.andThen_ok]
  cases decide (a = b)
  · simp
  · simpa using hr
theorem run_equal_arr4 {P : Program} {t e : TypeId} {k : IntKind} (hu : P.underlying t = some (.array 4 e)) (hi : (P.info? e).isSome = true) (hc : P.cellsOf e = 1) (he : P.underlying e = some (.int k)) {a0 a1 a2 a3 b0 b1 b2 b3 : Int} (w : World) :
    (Op.equal t (.agg #[.int k a0, .int k a1, .int k a2, .int k a3]) (.agg #[.int k b0, .int k b1, .int k b2, .int k b3])).run P w = .ok (decide (a0 = b0) && (decide (a1 = b1) && (decide (a2 = b2) && (decide (a3 = b3) && true)))) w := by
  obtain ⟨i, hi⟩ := Option.isSome_iff_exists.1 hi
  show (Op.equalIn (9999 + 1) t _ _).run P w = _
  rw [run_equalIn_array (P := P) (w := w) 9999 _ _ hu hi, hc]
  exact eqI_step he rfl rfl (eqI_step he rfl rfl (eqI_step he rfl rfl (eqI_step he rfl rfl eqI_nil)))
theorem putAt_eq : ∀ (vs : List Value) (cs : List Value) (o : Nat), o + vs.length ≤ cs.length → putAt cs o vs = cs.take o ++ vs ++ cs.drop (o + vs.length)
  | [], cs, o, _ => by simp [putAt]
  | v :: vs, cs, o, h => by
    simp only [List.length_cons] at h
    rw [putAt, putAt_eq vs _ _ (by rw [List.length_set]; omega), List.length_cons, ← list_seg_step cs o v vs h]
theorem putAt_all (cs vs : List Value) (h : vs.length = cs.length) : putAt cs 0 vs = vs := by
  rw [putAt_eq vs cs 0 (by omega)]
  simp [h]
/-! ### Structs with arrays in them -/
theorem fold_put (o : Nat) : ∀ (vs : List Value) (k : Nat) (cs : List Value), (vs.zipIdx k).foldl (fun (cs : Array Value) (x : Value × Nat) => cs.setIfInBounds (o + x.2) x.1) cs.toArray = (putAt cs (o + k) vs).toArray
  | [], _, _ => rfl
  | v :: vs, k, cs => by
    rw [List.zipIdx_cons, List.foldl_cons, putAt]
    have : cs.toArray.setIfInBounds (o + k) v = (cs.set (o + k) v).toArray := by simp
    rw [this, fold_put o vs (k + 1)]
    rfl
theorem fill_step {place : Nat → Option (Nat × Nat)} {cs : List Value} {i off size : Nat} {v : Value} {vs : List Value} {rest : List (Nat × Value)} (hp : place i = some (off, size)) (hv : v.cells = vs.toArray) (hs : vs.length = size) (hl : off + size ≤ cs.length) :
    Instr.fill place cs.toArray ((i, v) :: rest) = Instr.fill place (putAt cs off vs).toArray rest := by
  rw [Instr.fill]
  simp only [hp, hv, List.size_toArray, hs]
  rw [if_neg (by simp; omega)]
  congr 1
  have := fold_put off vs 0 cs
  rw [Nat.add_zero] at this
  rw [← this]
  simp
theorem PURE_build {P : Program} {t : TypeId} {fs : Array Field} {Z : List Value} {places : Array (Nat × Nat)} {parts : Array (Nat × Value)} {cells : List Value} {K : Value → Prop} (hu : P.underlying t = some (.struct fs)) (hz : (P.info? t).map (·.zero) = some (some (.agg Z.toArray)))
    (hp : ∀ w, (fs.mapM fun f => (do pure (f.offset, ← sizeOf f.type) : Sem (Nat × Nat))).run P w = .ok places w) (hf : Instr.fill (places[·]?) Z.toArray parts.toList = some cells.toArray) : PURE P (Instr.build t parts) K = K (.agg cells.toArray) := PURE_eq fun w => by
  obtain ⟨i, hi, hzi⟩ := Option.map_eq_some_iff.1 hz
  have h1 : (zeroValue t).run P w = .ok (.agg Z.toArray) w := by
    simp [zeroValue, typeInfo, program, pure, bind, Sem.bind, Sem.run, hi, hzi]
  unfold Instr.build
  simp only [Sem.run_bind, h1, Result.andThen_ok, run_underlying hu, hp, Value.cells, hf]
  rfl
end Go.Sx
namespace Go.Sx
open Go
/-- What is claimed at the end is kept out of sight till then. -/
theorem RET_by {P : Program} {f : FuncId} {args : List Value} {w : World} {R : Value → World → Prop} (h : ∀ R' : Value → World → Prop, (∀ v w', R v w' → R' v w') → RET P f args w R') : RET P f args w R := h R fun _ _ h => h

theorem SlI.chg {S : Nat → Prop} {w w' : World} {v : Value} {l : List Int} (h : SlI w v l) (hc : Chg S w w') (hs : ∀ k, v.ownBlock = some k → ¬ S k) : SlI w' v l := by
  obtain ⟨A, c, rfl, h2, h3⟩ := h
  exact ⟨A, c, rfl, h2.chg hc (fun a ha => hs _ (by subst ha; rfl)), h3⟩
theorem SlB.chg {S : Nat → Prop} {w w' : World} {v : Value} {l : List UInt8} (h : SlB w v l) (hc : Chg S w w') (hs : ∀ k, v.ownBlock = some k → ¬ S k) : SlB w' v l := by
  obtain ⟨A, c, rfl, h2, h3⟩ := h
  exact ⟨A, c, rfl, h2.chg hc (fun a ha => hs _ (by subst ha; rfl)), h3⟩
theorem SlG.chg {α : Type} {enc : α → List Value} {S : Nat → Prop} {w w' : World} {v : Value} {l : List α} (h : SlG enc w v l) (hc : Chg S w w') (hs : ∀ k, v.ownBlock = some k → ¬ S k) : SlG enc w' v l := by
  obtain ⟨A, c, rfl, h2, h3⟩ := h
  exact ⟨A, c, rfl, h2.chg hc (fun a ha => hs _ (by subst ha; rfl)), h3⟩
end Go.Sx
namespace Go.Sx
open Go

/-- '[]byte("..")' of a constant. -/
theorem LIT {P : Program} {s : Sem Value} {w : World} {t e : TypeId} {n : Nat} {K : Value → World → Prop} (l : List UInt8) (hrun : s.run P w = .ok (.slice (some ⟨w.heap.size, 0, none⟩) n n) (w.alloc (.cells (l.map vB).toArray e))) (ht : P.underlying t = some (.slice e)) (he : P.underlying e = some (.int .u8)) (hl : l.length = n) (hb : n ≤ 140737488355328)
    (k : ∀ w', SlB w' (.slice (some ⟨w.heap.size, 0, none⟩) n n) l → Ext w w' → w'.heap.size = w.heap.size + 1 → K (.slice (some ⟨w.heap.size, 0, none⟩) n n) w') : RUN P s w fun v1 w1 => RUN P (convert t t v1) w1 K := by
  rw [RUN_eq hrun]
  have hc := Lib.run_convert_bytes_const (P := P) w t e (l.map vB).toArray n n ht he
  rw [RUN_eq hc]
  refine k _ ⟨_, n, by rw [hl], .inr ⟨_, 0, rfl, fun i v hi => ?_⟩, by omega, by omega⟩ (Ext.alloc w _) (by simp)
  rw [Nat.zero_add]
  have := heap_alloc_new w (.cells (l.map vB).toArray e ((l.map vB).toArray.size, (l.map vB).toArray.size + 1))
  simp only [World.cell?, this]
  simp only [List.getElem?_toArray]
  rw [hi]
  rfl

/-- 'string(..)' of bytes. -/
theorem STR {P : Program} {src dst e : TypeId} (hs : P.underlying src = some (.slice e)) (he : P.underlying e = some (.int .u8)) (hd : P.underlying dst = some .string) {w : World} {v : Value} {l : List UInt8} {K : Value → World → Prop} (h : SlB w v l) : RUN P (convert src dst v) w K = K (.string ⟨l.toArray⟩) w := by
  obtain ⟨A, c, rfl, hr, _⟩ := h
  cases A with
  | none =>
    have : l = [] := by
      cases l with
      | nil => rfl
      | cons x l => rcases hr with hr | ⟨_, _, hr, _⟩ <;> cases hr
    subst this
    exact RUN_eq (run_convert_bytes_nil (P := P) (w := w) src e hs he _ _ dst hd)
  | some a =>
    refine RUN_eq (run_convert_bytes_back (P := P) w src dst e a c l hs he hd fun j hj => ?_)
    rcases hr with hr | ⟨b, o, ha, hr⟩
    · simp at hr; subst hr; simp at hj
    · injection ha with ha
      subst ha
      rw [addr_add]
      exact hr j _ (by simp [hj, vB])
theorem SlB.kp {w w' : World} {v : Value} {l : List UInt8} (h : SlB w v l) (k : KP (fun _ => False) w w') : SlB w' v l := by
  obtain ⟨A, c, rfl, hr, h1, h2⟩ := h
  refine ⟨A, c, rfl, ?_, h1, h2⟩
  rcases hr with hr | ⟨b, o, rfl, hr⟩
  · exact .inl hr
  · exact .inr ⟨b, o, rfl, fun i v hv => k.cell (hr i v hv) (fun x => x)⟩
theorem SlB.same {w w' : World} {v : Value} {l : List UInt8} (h : SlB w v l) (k : SAME w w') : SlB w' v l := h.kp fun b _ _ => by rw [show w'.heap = w.heap from k]
theorem run_STR {P : Program} {src dst e : TypeId} (hs : P.underlying src = some (.slice e)) (he : P.underlying e = some (.int .u8)) (hd : P.underlying dst = some .string) {w : World} {v : Value} {l : List UInt8} (h : SlB w v l) : (convert src dst v).run P w = .ok (.string ⟨l.toArray⟩) w := by
  have := (STR (K := fun v' w' => v' = .string ⟨l.toArray⟩ ∧ w' = w) hs he hd h).mpr ⟨rfl, rfl⟩
  unfold RUN at this
  split at this
  · rename_i h1; rw [h1, this.1, this.2]
  · cases this
theorem STRK {P : Program} {src dst e : TypeId} (hs : P.underlying src = some (.slice e)) (he : P.underlying e = some (.int .u8)) (hd : P.underlying dst = some .string) {w w1 : World} {v : Value} {l : List UInt8} {K : Value → Prop} (h : SlB w v l) (hk : KP (fun _ => False) w w1) : READ P (KP (fun _ => False) w) (convert src dst v) w1 K = K (.string ⟨l.toArray⟩) :=
  READ_eq (run_STR hs he hd (h.kp hk)) fun w' hw => run_STR hs he hd (h.kp hw)
end Go.Sx
namespace Go.Sx
open Go

/-! ### Maps from a text to a number -/
abbrev KS := List UInt8 × Int
def MapS (w : World) (m : Nat) (kvs : List KS) : Prop :=
  ∃ es clock, w.heap[m]? = some (.map es clock) ∧ es.toList.map (fun e => (e.key, e.val)) = kvs.map fun x => (Value.string ⟨x.1.toArray⟩, Value.int .i64 x.2)
def lookS : List KS → List UInt8 → Option Int
  | [], _ => none
  | x :: r, k => if k = x.1 then some x.2 else lookS r k
theorem lookS_mem {kvs : List KS} {k : List UInt8} : (lookS kvs k).isSome = true ↔ k ∈ kvs.map (·.1) := by
  induction kvs with
  | nil => simp [lookS]
  | cons x r ih =>
    unfold lookS
    split
    · rename_i h; simp [h]
    · rename_i h; simp [h, ih]
theorem MapS.lt {w : World} {m : Nat} {kvs : List KS} (h : MapS w m kvs) : m < w.heap.size := by
  obtain ⟨es, clock, h, _⟩ := h
  exact (Array.getElem?_eq_some_iff.1 h).1
theorem MapS.chg {S : Nat → Prop} {w w' : World} {m : Nat} {kvs : List KS} (h : MapS w m kvs) (hc : Chg S w w') (hs : ¬ S m) : MapS w' m kvs := by
  have hlt := h.lt
  obtain ⟨es, clock, h, hh⟩ := h
  exact ⟨es, clock, (hc.block m hlt hs).trans h, hh⟩
theorem MapS.ext {w w' : World} {m : Nat} {kvs : List KS} (h : MapS w m kvs) (hc : Ext w w') : MapS w' m kvs := h.chg hc fun x => x

/-- What a type of keys must be. -/
structure KeyS (P : Program) (kt : TypeId) : Prop where
  check : ∀ e s w, (Instr.checkKey e 10000 kt (.string s)).run P w = .ok () w
  str : P.underlying kt = some .string

variable {P : Program}
theorem findNowS (k : List UInt8) : ∀ (es : List MapEntry) (kvs : List KS) (i : Nat), es.map (fun e => (e.key, e.val)) = kvs.map (fun x => (Value.string ⟨x.1.toArray⟩, Value.int .i64 x.2)) →
    ∃ r, Instr.findNow .string (.string ⟨k.toArray⟩) es i = some r ∧ (match r with
      | none => lookS kvs k = none
      | some (j, v) => ∃ x, lookS kvs k = some x ∧ v = .int .i64 x)
  | [], kvs, i, h => by
    have : kvs = [] := by cases kvs with | nil => rfl | cons x r => simp at h
    subst this
    exact ⟨none, rfl, rfl⟩
  | e :: es, kvs, i, h => by
    cases kvs with
    | nil => simp at h
    | cons x r =>
      simp only [List.map_cons, List.cons.injEq, Prod.mk.injEq] at h
      unfold Instr.findNow
      rw [h.1.1]
      have e1 : ((⟨k.toArray⟩ : ByteArray) == ⟨x.1.toArray⟩) = decide (k = x.1) := by
        have : ((⟨k.toArray⟩ : ByteArray) == ⟨x.1.toArray⟩) = (k.toArray == x.1.toArray) := rfl
        rw [this]
        by_cases hab : k = x.1
        · rw [hab]; simp
        · simp [hab]
      simp only [Instr.sameNow, e1]
      by_cases hx : k = x.1
      · simp only [hx, decide_true]
        exact ⟨_, rfl, x.2, by simp [lookS], h.1.2⟩
      · simp only [hx, decide_false]
        obtain ⟨r', hr, hp⟩ := findNowS k es r (i + 1) h.2
        refine ⟨r', hr, ?_⟩
        cases r' with
        | none => simp only at hp ⊢; rw [lookS, if_neg hx]; exact hp
        | some jv => simp only at hp ⊢; rw [lookS, if_neg hx]; exact hp
theorem run_findKeyS {kt : TypeId} (hk : KeyS P kt) {k : List UInt8} {es : List MapEntry} {r : Option (Nat × Value)} (h : Instr.findNow .string (.string ⟨k.toArray⟩) es 0 = some r) (w : World) : (Instr.findKey kt (.string ⟨k.toArray⟩) es).run P w = .ok r w := by
  simp only [Instr.findKey, underlying, program, pure, bind, Sem.bind, Sem.run, hk.str, h]

theorem RUN_lookS {mt kt et : TypeId} (hm : P.underlying mt = some (.map kt et)) (hz : (P.info? et).map (·.zero) = some (some (.int .i64 0))) (hk : KeyS P kt) {w : World} {m : Nat} {kvs : List KS} {k : List UInt8} {K : Value → World → Prop} (h : MapS w m kvs) :
    RUN P (Instr.lookup mt (.map (some m)) (.string ⟨k.toArray⟩) true) w K = K (.tuple #[.int .i64 ((lookS kvs k).getD 0), .bool (lookS kvs k).isSome]) w := by
  refine RUN_eq ?_
  obtain ⟨es, clock, hh, he⟩ := h
  obtain ⟨inf, hinf, hzi⟩ := Option.map_eq_some_iff.1 hz
  obtain ⟨r, hr, hp⟩ := findNowS k es.toList kvs 0 he
  have hck := hk.check es.isEmpty ⟨k.toArray⟩ w
  simp only [Instr.lookup, underlying, program, getObj, pure, bind, Sem.bind, Sem.run, hm, hh]
  show (Sem.bind (Instr.checkKey es.isEmpty 10000 kt (.string ⟨k.toArray⟩)) _).run P w = _
  rw [Sx.run_bind, hck]
  simp only
  rw [Sx.run_bind, run_findKeyS hk hr]
  cases r with
  | none =>
    simp only at hp
    simp [zeroValue, typeInfo, program, pure, bind, Sem.bind, Sem.run, hinf, hzi, hp]
  | some jv =>
    obtain ⟨j, v⟩ := jv
    simp only at hp
    obtain ⟨x, h3, h4⟩ := hp
    rw [h3, h4]
    rfl

/-- One more. -/
theorem MAPNEWS {mt kt et : TypeId} (hm : P.underlying mt = some (.map kt et)) (hk : KeyS P kt) {w : World} {m : Nat} {kvs : List KS} {k : List UInt8} {v : Int} {K : World → Prop} (h : MapS w m kvs) (hn : lookS kvs k = none)
    (kk : ∀ w', MapS w' m (kvs ++ [(k, v)]) → Chg (fun j => j = m) w w' → w'.heap.size = w.heap.size → K w') : RUNU P (Instr.mapUpdate mt (.map (some m)) (.string ⟨k.toArray⟩) (.int .i64 v)) w K := by
  have hlt := h.lt
  obtain ⟨es, clock, hh, he⟩ := h
  obtain ⟨r, hr, hp⟩ := findNowS k es.toList kvs 0 he
  have hck := hk.check false ⟨k.toArray⟩ w
  have chg : ∀ o : Obj, Chg (fun j => j = m) w { w with heap := w.heap.setIfInBounds m o } := fun o =>
    ⟨rfl, rfl, rfl, by simp, fun j hj hn => by simp only; rw [Array.getElem?_setIfInBounds_ne (Ne.symm hn)]⟩
  have new : ∀ o : Obj, ({ w with heap := w.heap.setIfInBounds m o } : World).heap[m]? = some o := fun o => by simp [hlt]
  cases r with
  | none =>
    rw [RUNU_eq (w' := { w with heap := w.heap.setIfInBounds m (.map (es.push { key := .string ⟨k.toArray⟩, val := .int .i64 v, born := clock }) (clock + 1)) })]
    · refine kk _ ⟨_, _, new _, ?_⟩ (chg _) (by simp)
      simp [he]
    · simp only [Instr.mapUpdate, underlying, program, getObj, pure, bind, Sem.bind, Sem.run, hm, hh]
      show (Sem.bind (Instr.checkKey false 10000 kt (.string ⟨k.toArray⟩)) _).run P w = _
      rw [Sx.run_bind, hck]
      simp only
      rw [Sx.run_bind, run_findKeyS hk hr]
      simp [setObj, Sem.run, hh]
  | some jv =>
    obtain ⟨j, v0⟩ := jv
    simp only at hp
    obtain ⟨x, h3, _⟩ := hp
    rw [hn] at h3
    cases h3
end Go.Sx
