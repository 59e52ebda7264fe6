import Derived.Test.YtopdjdkkhpkmiaaEngZ
import Derived.Below
import Derived.Maps.AppendAt
import Derived.Deep.AppendLies
import Derived.Laws.OwnMore
import Derived.Laws.MakeOwn
import Derived.Laws.BytesArg
import Derived.Laws.IdiomCopy
import Derived.Laws.IdiomStrings
import Derived.Lib.ConvBytes
import Derived.IntWalk
set_option linter.unusedVariables false
set_option linter.unusedSimpArgs false
namespace Go.Sx
open Go

/-! ### Calls that return -/
def Ends (R : Value → World → Prop) (E : List PanicEntry → World → Prop) : Ending → World → Prop
  | .returned v, w => R v w
  | .panicked c, w => E c w
  | .outgrown, _ => False

def NOPE : List PanicEntry → World → Prop := fun _ _ => False

/-- The call returns; R says what and in which world. -/
def RET (P : Program) (f : FuncId) (args : List Value) (w : World) (R : Value → World → Prop) : Prop :=
  callable P f = true ∧ Calls P f args.toArray w (Ends R NOPE)

theorem RET.mono {P : Program} {f : FuncId} {args : List Value} {w : World} {R R' : Value → World → Prop} (h : RET P f args w R) (hr : ∀ v w', R v w' → R' v w') : RET P f args w R' :=
  ⟨h.1, h.2.mono fun e w' he => by cases e <;> first | exact hr _ _ he | exact he.elim⟩

theorem CALL_of {P : Program} {f : FuncId} {args : List Value} {w : World} {E : List PanicEntry → World → Prop} {K R : Value → World → Prop} (h : RET P f args w R) (hk : ∀ v w', R v w' → K v w') : CALL P f args w E K :=
  ⟨h.1, h.2.mono fun e w' he => by cases e <;> first | exact hk _ _ he | exact he.elim⟩

theorem CALLV_of {P : Program} {f : FuncId} {first captured : Array Value} {args : List Value} {w : World} {E : List PanicEntry → World → Prop} {K R : Value → World → Prop}
    (h : RET P f (first.toList ++ args ++ captured.toList) w R) (hk : ∀ v w', R v w' → K v w') : CALLV P (.func (.func f) first captured) args w E K :=
  ⟨f, first, captured, rfl, CALL_of h hk⟩

theorem RET_calls {P : Program} {f : FuncId} {args : List Value} {w : World} {R : Value → World → Prop} (h : RET P f args w R) : Calls P f args.toArray w fun e w' => ∃ v, e = .returned v ∧ R v w' :=
  h.2.mono fun e w' he => by cases e <;> first | exact ⟨_, rfl, he⟩ | exact he.elim

/-! ### simp goes into the operation alone, never into what comes behind it -/
section
variable {P : Program} {S : World → Prop} {w : World}
@[congr] theorem PURE_congr {s s' : Sem Value} {K : Value → Prop} (h : s = s') : PURE P s K = PURE P s' K := by rw [h]
@[congr] theorem RUN_congr {s s' : Sem Value} {w' : World} {K : Value → World → Prop} (h : s = s') (hw : w = w') : RUN P s w K = RUN P s' w' K := by rw [h, hw]
@[congr] theorem RUNU_congr {s s' : Sem Unit} {w' : World} {K : World → Prop} (h : s = s') (hw : w = w') : RUNU P s w K = RUNU P s' w' K := by rw [h, hw]
@[congr] theorem READ_congr {s s' : Sem Value} {w' : World} {K : Value → Prop} (h : s = s') (hw : w = w') : READ P S s w K = READ P S s' w' K := by rw [h, hw]
@[congr] theorem COND_congr {v v' : Value} {X Y : Prop} (h : v = v') : COND v X Y = COND v' X Y := by rw [h]
@[congr] theorem CALL_congr {f : FuncId} {args args' : List Value} {w' : World} {E : List PanicEntry → World → Prop} {K : Value → World → Prop} (h : args = args') (hw : w = w') : CALL P f args w E K = CALL P f args' w' E K := by rw [h, hw]
@[congr] theorem CALLV_congr {v v' : Value} {args args' : List Value} {w' : World} {E : List PanicEntry → World → Prop} {K : Value → World → Prop} (hv : v = v') (h : args = args') (hw : w = w') : CALLV P v args w E K = CALLV P v' args' w' E K := by rw [hv, h, hw]
@[congr] theorem LOOP0_congr {B : World → (World → Prop) → Prop} {w' : World} (hw : w = w') : LOOP0 B w = LOOP0 B w' := by rw [hw]
@[congr] theorem LOOP1_congr {B : Value → World → (Value → World → Prop) → Prop} {x x' : Value} {w' : World} (h : x = x') (hw : w = w') : LOOP1 B x w = LOOP1 B x' w' := by rw [h, hw]
@[congr] theorem LOOP2_congr {B : Value → Value → World → (Value → Value → World → Prop) → Prop} {x x' y y' : Value} {w' : World} (h : x = x') (h2 : y = y') (hw : w = w') : LOOP2 B x y w = LOOP2 B x' y' w' := by rw [h, h2, hw]
@[congr] theorem LOOP3_congr {B : Value → Value → Value → World → (Value → Value → Value → World → Prop) → Prop} {x x' y y' z z' : Value} {w' : World} (h : x = x') (h2 : y = y') (h3 : z = z') (hw : w = w') : LOOP3 B x y z w = LOOP3 B x' y' z' w' := by rw [h, h2, h3, hw]
@[congr] theorem LOOP4_congr {B : Value → Value → Value → Value → World → (Value → Value → Value → Value → World → Prop) → Prop} {x x' y y' z z' u u' : Value} {w' : World} (h : x = x') (h2 : y = y') (h3 : z = z') (h4 : u = u') (hw : w = w') : LOOP4 B x y z u w = LOOP4 B x' y' z' u' w' := by rw [h, h2, h3, h4, hw]
@[congr] theorem LOOP5_congr {B : Value → Value → Value → Value → Value → World → (Value → Value → Value → Value → Value → World → Prop) → Prop} {x x' y y' z z' u u' t t' : Value} {w' : World} (h : x = x') (h2 : y = y') (h3 : z = z') (h4 : u = u') (h5 : t = t') (hw : w = w') : LOOP5 B x y z u t w = LOOP5 B x' y' z' u' t' w' := by rw [h, h2, h3, h4, h5, hw]
@[congr] theorem DRAW_congr {B : (World → Prop) → World → Prop} {w' : World} (hw : w = w') : DRAW w B = DRAW w' B := by rw [hw]
@[congr] theorem DRAWQ_congr {B : (World → Prop) → World → Prop} {w' : World} (hw : w = w') : DRAWQ w B = DRAWQ w' B := by rw [hw]
@[congr] theorem LOADRES_congr {t : TypeId} {v v' : Value} {w' : World} {K : Value → Prop} (h : v = v') (hw : w = w') : LOADRES P t v w K = LOADRES P t v' w' K := by rw [h, hw]
end

/-! ### How an operation goes, handed in -/
theorem PURE_eq {P : Program} {s : Sem Value} {v : Value} {K : Value → Prop} (h : ∀ w, s.run P w = .ok v w) : PURE P s K = K v := by
  refine propext ⟨?_, fun k => ⟨v, h, k⟩⟩
  rintro ⟨v', h', k⟩
  have := (h' default).symm.trans (h default)
  injection this with e
  exact e ▸ k

theorem RUN_eq {P : Program} {s : Sem Value} {v : Value} {w w' : World} {K : Value → World → Prop} (h : s.run P w = .ok v w') : RUN P s w K = K v w' := by
  unfold RUN
  rw [h]

theorem RUNU_eq {P : Program} {s : Sem Unit} {w w' : World} {K : World → Prop} (h : s.run P w = .ok () w') : RUNU P s w K = K w' := by
  unfold RUNU
  rw [h]

theorem RUN_ex {P : Program} {s : Sem Value} {w : World} {K : Value → World → Prop} (h : ∃ v w', s.run P w = .ok v w' ∧ K v w') : RUN P s w K := by
  obtain ⟨v, w', h, k⟩ := h
  rw [RUN_eq h]
  exact k

theorem READ_eq {P : Program} {S : World → Prop} {s : Sem Value} {v : Value} {w : World} {K : Value → Prop} (h : s.run P w = .ok v w) (hS : ∀ w', S w' → s.run P w' = .ok v w') : READ P S s w K = K v := by
  refine propext ⟨?_, fun k => ⟨v, h, hS, k⟩⟩
  rintro ⟨v', h', _, k⟩
  rw [h] at h'
  injection h' with e
  exact e ▸ k

/-! ### Frames -/
/-- But for the blocks of S, what was there is as it was. -/
structure Chg (S : Nat → Prop) (w w' : World) : Prop where
  os : w'.os = w.os
  tape : w'.tape = w.tape
  output : w'.output = w.output
  size : w.heap.size ≤ w'.heap.size
  block : ∀ k, k < w.heap.size → ¬ S k → w'.heap[k]? = w.heap[k]?

/-- Nothing that was there has changed. -/
abbrev Ext (w w' : World) : Prop := Chg (fun _ => False) w w'

theorem Chg.refl (S : Nat → Prop) (w : World) : Chg S w w := ⟨rfl, rfl, rfl, Nat.le_refl _, fun _ _ _ => rfl⟩
theorem Ext.refl (w : World) : Ext w w := Chg.refl _ w
theorem Chg.trans {S T : Nat → Prop} {a b c : World} (h : Chg S a b) (k : Chg T b c) : Chg (fun i => S i ∨ T i) a c :=
  ⟨k.os.trans h.os, k.tape.trans h.tape, k.output.trans h.output, Nat.le_trans h.size k.size, fun i hi hn => (k.block i (Nat.lt_of_lt_of_le hi h.size) (fun x => hn (.inr x))).trans (h.block i hi (fun x => hn (.inl x)))⟩
/-- What is written may be told anew, of the blocks that were there alone. -/
theorem Chg.weaken {S T : Nat → Prop} {a b : World} (h : Chg S a b) (hs : ∀ i, i < a.heap.size → S i → T i) : Chg T a b :=
  ⟨h.os, h.tape, h.output, h.size, fun i hi hn => h.block i hi (fun x => hn (hs i hi x))⟩
theorem Chg.then {S T U : Nat → Prop} {a b c : World} (h : Chg S a b) (k : Chg T b c) (hs : ∀ i, i < a.heap.size → S i → U i) (ht : ∀ i, i < a.heap.size → T i → U i) : Chg U a c :=
  (h.trans k).weaken fun i hi x => x.elim (hs i hi) (ht i hi)
theorem Ext.trans {a b c : World} (h : Ext a b) (k : Ext b c) : Ext a c := h.then k (fun _ _ x => x) (fun _ _ x => x)
theorem Ext.chg {S : Nat → Prop} {a b : World} (h : Ext a b) : Chg S a b := h.weaken fun _ _ x => x.elim
theorem Ext.drew (w : World) : Ext w w.drew := ⟨rfl, rfl, rfl, Nat.le_refl _, fun _ _ _ => rfl⟩
theorem Chg.drew {S : Nat → Prop} {a b : World} (h : Chg S a b) : Chg S a b.drew := ⟨h.os, h.tape, h.output, h.size, h.block⟩
theorem Chg.of_drew {S : Nat → Prop} {a b : World} (h : Chg S a.drew b) : Chg S a b := ⟨h.os, h.tape, h.output, h.size, h.block⟩
theorem Ext.alloc (w : World) (o : Obj) : Ext w (w.alloc o) := ⟨rfl, rfl, rfl, by simp, fun k hk _ => heap_alloc_old w o k hk⟩
theorem Chg.of_grownBy {w w' : World} {row : Option Nat} (h : w.grownBy w' row) : Chg (fun k => some k = row) w w' := ⟨h.os, h.tape, h.output, h.size, h.block⟩
theorem Chg.grownBy {w w' : World} {row : Option Nat} (h : Chg (fun k => some k = row) w w') : w.grownBy w' row := ⟨h.os, h.tape, h.output, h.size, h.block⟩
theorem Ext.of_grownBy {w w' : World} (h : w.grownBy w' none) : Ext w w' := ⟨h.os, h.tape, h.output, h.size, fun k hk _ => h.block k hk (by simp)⟩

theorem Chg.cell {S : Nat → Prop} {w w' : World} (h : Chg S w w') {a : Addr} {v : Value} (hc : w.cell? a = some v) (hs : ¬ S a.block) : w'.cell? a = some v :=
  (World.cell?_of_block (h.block a.block (World.block_lt_of_cell? w a hc) hs)).trans hc
theorem Ext.cell {w w' : World} (h : Ext w w') {a : Addr} {v : Value} (hc : w.cell? a = some v) : w'.cell? a = some v := Chg.cell h hc (fun x => x)

/-! ### A block known whole -/
def Own (w : World) (b : Nat) (cs : List Value) (ty : TypeId) : Prop := w.heap[b]? = some (.cells cs.toArray ty (0, 0))

theorem Own.lt {w : World} {b : Nat} {cs : List Value} {ty : TypeId} (h : Own w b cs ty) : b < w.heap.size := (Array.getElem?_eq_some_iff.1 h).1
theorem Own.chg {S : Nat → Prop} {w w' : World} {b : Nat} {cs : List Value} {ty : TypeId} (h : Own w b cs ty) (hc : Chg S w w') (hs : ¬ S b) : Own w' b cs ty := (hc.block b h.lt hs).trans h
theorem Own.ext {w w' : World} {b : Nat} {cs : List Value} {ty : TypeId} (h : Own w b cs ty) (hc : Ext w w') : Own w' b cs ty := h.chg hc (fun x => x)
theorem Own.cell {w : World} {b : Nat} {cs : List Value} {ty : TypeId} (h : Own w b cs ty) {i : Nat} {v : Value} (hi : cs[i]? = some v) : w.cell? ⟨b, i, none⟩ = some v := by
  simp [World.cell?, show w.heap[b]? = _ from h, hi]
theorem Own.drew {w : World} {b : Nat} {cs : List Value} {ty : TypeId} (h : Own w b cs ty) : Own w.drew b cs ty := h
theorem Own.alloc_new (w : World) (cs : List Value) (ty : TypeId) : Own (w.alloc (.cells cs.toArray ty)) w.heap.size cs ty := heap_alloc_new w _

end Go.Sx
