import Derived.Test.YtopdjdkkhpkmiaaLib
set_option linter.unusedVariables false
set_option linter.unusedSimpArgs false
namespace Go.Sx
open Go

/-! ### Operations that look at no memory -/
section
variable {P : Program} {K : Value → Prop}

theorem PURE_nils (a : Addr) : PURE P (NILS (.pointer (some a))) K = K (.pointer (some a)) := PURE_eq fun _ => rfl
theorem PURE_nilsf (f : FuncId) (x y : Array Value) : PURE P (NILS (.func (.func f) x y)) K = K (.func (.func f) x y) := PURE_eq fun _ => rfl
theorem PURE_nilsi (t : TypeId) (v : Value) : PURE P (NILS (.iface t v)) K = K (.iface t v) := PURE_eq fun _ => rfl
theorem PURE_pick1 (a b : Value) : PURE P (PICKS (.bool true) a b) K = K a := PURE_eq fun _ => rfl
theorem PURE_pick0 (a b : Value) : PURE P (PICKS (.bool false) a b) K = K b := PURE_eq fun _ => rfl
theorem PURE_not (b : Bool) : PURE P (Op.unary .not (.bool b)) K = K (.bool !b) := PURE_eq fun _ => rfl
theorem PURE_neg (n : Int) : PURE P (Op.unary .neg (.int .i64 n)) K = K (.int .i64 (RowKit.wrap64 (0 - n))) := PURE_eq fun _ => by
  show Result.ok _ _ = _
  rw [IntWalk.i64_left]

variable (t : TypeId) (x y : Operand)
theorem PURE_add (a b : Int) : PURE P (BINS .add t x y (.int .i64 a) (.int .i64 b)) K = K (.int .i64 (RowKit.wrap64 (a + b))) := PURE_eq fun _ => by
  show Result.ok _ _ = _
  rw [IntWalk.i64_left]
theorem PURE_sub (a b : Int) : PURE P (BINS .sub t x y (.int .i64 a) (.int .i64 b)) K = K (.int .i64 (RowKit.wrap64 (a - b))) := PURE_eq fun _ => by
  show Result.ok _ _ = _
  rw [IntWalk.i64_left]
theorem PURE_mul (a b : Int) : PURE P (BINS .mul t x y (.int .i64 a) (.int .i64 b)) K = K (.int .i64 (RowKit.wrap64 (a * b))) := PURE_eq fun _ => by
  show Result.ok _ _ = _
  rw [IntWalk.i64_left]
theorem PURE_arith_u (k : IntKind) (a b : Int) : PURE P (BINS .add t x y (.int k a) (.int k b)) K = K (.int k (k.wrap (a + b))) := PURE_eq fun _ => by
  simp [BINS, eqGuard, binOp, Op.intArith, pure, bind, Sem.bind, Sem.run]
theorem PURE_sub_u (k : IntKind) (a b : Int) : PURE P (BINS .sub t x y (.int k a) (.int k b)) K = K (.int k (k.wrap (a - b))) := PURE_eq fun _ => by
  simp [BINS, eqGuard, binOp, Op.intArith, pure, bind, Sem.bind, Sem.run]
theorem PURE_mul_u (k : IntKind) (a b : Int) : PURE P (BINS .mul t x y (.int k a) (.int k b)) K = K (.int k (k.wrap (a * b))) := PURE_eq fun _ => by
  simp [BINS, eqGuard, binOp, Op.intArith, pure, bind, Sem.bind, Sem.run]
theorem PURE_lss (k : IntKind) (a b : Int) : PURE P (BINS .lss t x y (.int k a) (.int k b)) K = K (.bool (decide (a < b))) := PURE_eq fun _ => by
  simp [BINS, eqGuard, binOp, Op.intCmp, pure, bind, Sem.bind, Sem.run]
theorem PURE_leq (k : IntKind) (a b : Int) : PURE P (BINS .leq t x y (.int k a) (.int k b)) K = K (.bool (decide (a ≤ b))) := PURE_eq fun _ => by
  simp [BINS, eqGuard, binOp, Op.intCmp, pure, bind, Sem.bind, Sem.run]
theorem PURE_gtr (k : IntKind) (a b : Int) : PURE P (BINS .gtr t x y (.int k a) (.int k b)) K = K (.bool (decide (b < a))) := PURE_eq fun _ => by
  simp [BINS, eqGuard, binOp, Op.intCmp, pure, bind, Sem.bind, Sem.run]
theorem PURE_geq (k : IntKind) (a b : Int) : PURE P (BINS .geq t x y (.int k a) (.int k b)) K = K (.bool (decide (b ≤ a))) := PURE_eq fun _ => by
  simp [BINS, eqGuard, binOp, Op.intCmp, pure, bind, Sem.bind, Sem.run]
theorem PURE_eql (k : IntKind) (a b : Int) : PURE P (BINS .eql t x y (.int k a) (.int k b)) K = K (.bool (decide (a = b))) := PURE_eq fun _ => by
  simp [BINS, eqGuard, binOp, Op.intCmp, pure, bind, Sem.bind, Sem.run]
  rfl
theorem PURE_neq (k : IntKind) (a b : Int) : PURE P (BINS .neq t x y (.int k a) (.int k b)) K = K (.bool (!decide (a = b))) := PURE_eq fun _ => by
  simp [BINS, eqGuard, binOp, Op.intCmp, pure, bind, Sem.bind, Sem.run]
  rfl
theorem PURE_quo (k : IntKind) (a b : Int) (h : b ≠ 0) : PURE P (BINS .quo t x y (.int k a) (.int k b)) K = K (.int k (k.wrap (a.tdiv b))) := PURE_eq fun _ => by
  simp [BINS, eqGuard, binOp, Op.intDiv, pure, bind, Sem.bind, Sem.run, h]
theorem PURE_rem (k : IntKind) (a b : Int) (h : b ≠ 0) : PURE P (BINS .rem t x y (.int k a) (.int k b)) K = K (.int k (a.tmod b)) := PURE_eq fun _ => by
  simp [BINS, eqGuard, binOp, Op.intDiv, pure, bind, Sem.bind, Sem.run, h]
theorem PURE_shr (k j : IntKind) (a b : Int) (h : 0 ≤ b) : PURE P (BINS .shr t x y (.int k a) (.int j b)) K = K (.int k (a.fdiv (2 ^ (min b.toNat k.bits)))) := PURE_eq fun _ => by
  simp [BINS, eqGuard, binOp, Op.shift, pure, bind, Sem.bind, Sem.run, show ¬ b < 0 by omega]
theorem PURE_shl (k j : IntKind) (a b : Int) (h : 0 ≤ b) : PURE P (BINS .shl t x y (.int k a) (.int j b)) K = K (.int k (k.wrap (a * 2 ^ (min b.toNat k.bits)))) := PURE_eq fun _ => by
  simp [BINS, eqGuard, binOp, Op.shift, pure, bind, Sem.bind, Sem.run, show ¬ b < 0 by omega]
theorem PURE_and (k : IntKind) (a b : Int) : PURE P (BINS .and t x y (.int k a) (.int k b)) K = K (.int k (k.wrap (BitVec.ofInt k.bits a &&& BitVec.ofInt k.bits b).toNat)) := PURE_eq fun _ => by
  simp [BINS, eqGuard, binOp, Op.intBits, pure, bind, Sem.bind, Sem.run]
theorem PURE_or (k : IntKind) (a b : Int) : PURE P (BINS .or t x y (.int k a) (.int k b)) K = K (.int k (k.wrap (BitVec.ofInt k.bits a ||| BitVec.ofInt k.bits b).toNat)) := PURE_eq fun _ => by
  simp [BINS, eqGuard, binOp, Op.intBits, pure, bind, Sem.bind, Sem.run]
theorem PURE_xor (k : IntKind) (a b : Int) : PURE P (BINS .xor t x y (.int k a) (.int k b)) K = K (.int k (k.wrap (BitVec.ofInt k.bits a ^^^ BitVec.ofInt k.bits b).toNat)) := PURE_eq fun _ => by
  simp [BINS, eqGuard, binOp, Op.intBits, pure, bind, Sem.bind, Sem.run]
theorem PURE_min (a b : Int) (u : Array TypeId) : PURE P (Builtin.min_ u t #[.int .i64 a, .int .i64 b]) K = K (.int .i64 (min a b)) := PURE_eq fun _ => by
  simp [Builtin.min_, Builtin.min2, pure, bind, Sem.bind, Sem.run]
  omega
theorem PURE_max (a b : Int) (u : Array TypeId) : PURE P (Builtin.max_ u t #[.int .i64 a, .int .i64 b]) K = K (.int .i64 (max a b)) := PURE_eq fun _ => by
  simp [Builtin.max_, Builtin.max2, pure, bind, Sem.bind, Sem.run]
  omega
theorem PURE_makeFunc (f : FuncId) (a b : Array Value) : PURE P (Instr.makeFunc (.func f) a b) K = K (.func (.func f) a b) := PURE_eq fun _ => rfl
theorem PURE_ext0 (a : Value) : PURE P (Instr.extract (.tuple #[a]) 0) K = K a := PURE_eq fun _ => rfl
theorem PURE_ext20 (a b : Value) : PURE P (Instr.extract (.tuple #[a, b]) 0) K = K a := PURE_eq fun _ => rfl
theorem PURE_ext21 (a b : Value) : PURE P (Instr.extract (.tuple #[a, b]) 1) K = K b := PURE_eq fun _ => rfl
theorem PURE_ext30 (a b c : Value) : PURE P (Instr.extract (.tuple #[a, b, c]) 0) K = K a := PURE_eq fun _ => rfl
theorem PURE_ext31 (a b c : Value) : PURE P (Instr.extract (.tuple #[a, b, c]) 1) K = K b := PURE_eq fun _ => rfl
theorem PURE_ext32 (a b c : Value) : PURE P (Instr.extract (.tuple #[a, b, c]) 2) K = K c := PURE_eq fun _ => rfl
end

theorem COND_true {X Y : Prop} : COND (.bool true) X Y = X := by simp [COND]
theorem COND_false {X Y : Prop} : COND (.bool false) X Y = Y := by simp [COND]
theorem COND_if {b : Bool} {X Y : Prop} : COND (.bool b) X Y = (if b = true then X else Y) := by cases b <;> simp [COND]
theorem COND_dec {p : Prop} [Decidable p] {X Y : Prop} : COND (.bool (decide p)) X Y = (if p then X else Y) := by by_cases h : p <;> simp [COND, h]
theorem COND_ndec {p : Prop} [Decidable p] {X Y : Prop} : COND (.bool (!decide p)) X Y = (if p then Y else X) := by by_cases h : p <;> simp [COND, h]
theorem COND_yes {b : Bool} {X Y : Prop} (h : b = true) : COND (.bool b) X Y = X := by subst h; exact COND_true
theorem COND_no {b : Bool} {X Y : Prop} (h : b = false) : COND (.bool b) X Y = Y := by subst h; exact COND_false

/-! ### Loads -/
def LDC (c : Option Value) (w : World) (K : Value → World → Prop) : Prop :=
  match c with
  | some v => K v w
  | none => False
theorem LDC_some (v : Value) (w : World) (K : Value → World → Prop) : LDC (some v) w K = K v w := rfl
@[congr] theorem LDC_congr {c c' : Option Value} {w w' : World} {K : Value → World → Prop} (h : c = c') (hw : w = w') : LDC c w K = LDC c' w' K := by rw [h, hw]
def LDR (c : Option Value) (K : Value → Prop) : Prop :=
  match c with
  | some v => K v
  | none => False
theorem LDR_some (v : Value) (K : Value → Prop) : LDR (some v) K = K v := rfl
@[congr] theorem LDR_congr {c c' : Option Value} {K : Value → Prop} (h : c = c') : LDR c K = LDR c' K := by rw [h]

def isAggT (P : Program) (t : TypeId) : Bool :=
  match P.underlying t with
  | some (.struct _) | some (.array _ _) => true
  | _ => false

theorem run_loadAt {P : Program} {t : TypeId} (ht : (P.underlying t).isSome = true) (hagg : isAggT P t = false) {w : World} {a : Addr} {v : Value} (h : w.cell? a = some v) : (Instr.loadAt t (.pointer (some a))).run P w = .ok v w := by
  obtain ⟨d, hd⟩ := Option.isSome_iff_exists.1 ht
  unfold isAggT at hagg
  rw [hd] at hagg
  simp only [Instr.loadAt, Instr.sureAddr, loadVar, isAgg, underlying, program, pure, bind, Sem.bind, Sem.run, hd]
  cases d <;> first | (simp at hagg; done) | simp [Sem.bind, load, Sem.run, h]

theorem RUN_load {P : Program} {t : TypeId} (ht : (P.underlying t).isSome = true) (hagg : isAggT P t = false) {w : World} {a : Addr} {K : Value → World → Prop} {v : Value} (h : w.cell? a = some v) :
    RUN P (Instr.loadAt t (.pointer (some a))) w K = K v w := RUN_eq (run_loadAt ht hagg h)

theorem READ_load {P : Program} {t : TypeId} (ht : (P.underlying t).isSome = true) (hagg : isAggT P t = false) {w : World} {a : Addr} {K : Value → Prop} {v : Value} (h : w.cell? a = some v) :
    READ P (SAME w) (Instr.loadAt t (.pointer (some a))) w.drew K = K v :=
  READ_eq (run_loadAt ht hagg h) fun w' hw => run_loadAt ht hagg (by rw [← h]; unfold World.cell?; rw [show w'.heap = w.heap from hw])

/-- What is kept of the worlds of a region: the blocks that were there, but for some. -/
def KP (X : Nat → Prop) (w w' : World) : Prop := ∀ b, b < w.heap.size → ¬ X b → w'.heap[b]? = w.heap[b]?
theorem KP.refl (X : Nat → Prop) (w : World) : KP X w w.drew := fun _ _ _ => rfl
theorem KP.cell {X : Nat → Prop} {w w' : World} (h : KP X w w') {a : Addr} {v : Value} (hc : w.cell? a = some v) (hx : ¬ X a.block) : w'.cell? a = some v :=
  (World.cell?_of_block (h a.block (World.block_lt_of_cell? w a hc) hx)).trans hc
theorem KP.of_chg {S X : Nat → Prop} {w w' : World} (h : Chg S w w') (hx : ∀ i, i < w.heap.size → S i → X i) : KP X w w' := fun b hb hn => h.block b hb (fun s => hn (hx b hb s))
theorem KP.of_ext {X : Nat → Prop} {w w' : World} (h : Ext w w') : KP X w w' := KP.of_chg h fun _ _ x => x.elim
theorem KP.then {S X : Nat → Prop} {w w1 w2 : World} (h : KP X w w1) (hs : w.heap.size ≤ w1.heap.size) (k : Chg S w1 w2) (hx : ∀ i, i < w.heap.size → S i → X i) : KP X w w2 :=
  fun b hb hn => (k.block b (Nat.lt_of_lt_of_le hb hs) (fun s => hn (hx b hb s))).trans (h b hb hn)

theorem KP.self (X : Nat → Prop) (w : World) : KP X w w := fun _ _ _ => rfl
theorem KP.trans_ext {X : Nat → Prop} {w w1 w2 : World} (h : Ext w w1) (k : KP X w1 w2) : KP X w w2 := fun b hb hx => (k b (Nat.lt_of_lt_of_le hb h.size) hx).trans (h.block b hb (fun x => x))
/-- From here on all that there is now is kept. -/
theorem KEEPK {w w3 : World} {B : (World → Prop) → Prop} (e : Ext w w3) (k : B (KP (fun _ => False) w3)) : KEEPS (KP (fun _ => False) w) w3 B := ⟨_, fun _ h => KP.trans_ext e h, fun _ _ _ => rfl, k⟩

theorem READ_loadK {P : Program} {t : TypeId} (ht : (P.underlying t).isSome = true) (hagg : isAggT P t = false) {X : Nat → Prop} {w w1 : World} {a : Addr} {K : Value → Prop} {v : Value} (h : w.cell? a = some v) (hx : ¬ X a.block) (hk : KP X w w1) :
    READ P (KP X w) (Instr.loadAt t (.pointer (some a))) w1 K = K v :=
  READ_eq (run_loadAt ht hagg (hk.cell h hx)) fun w' hw => run_loadAt ht hagg (hw.cell h hx)

/-- Many cells, one behind the other. -/
def cellsAt (w : World) (b : Nat) : Nat → Nat → Option (List Value)
  | _, 0 => some []
  | o, n + 1 => match w.cell? ⟨b, o, none⟩, cellsAt w b (o + 1) n with
    | some v, some l => some (v :: l)
    | _, _ => none

theorem addr_add (b o i : Nat) : (⟨b, o, none⟩ : Addr).add i = ⟨b, o + i, none⟩ := by
  unfold Addr.add
  split
  · rename_i h; subst h; rfl
  · rfl

theorem run_loadCellsFrom {P : Program} {w : World} {b o : Nat} : ∀ (n i : Nat) (acc : Array Value) (cs : List Value), cellsAt w b (o + i) n = some cs →
    (loadCellsFrom ⟨b, o, none⟩ i n acc).run P w = .ok (acc ++ cs.toArray) w
  | 0, i, acc, cs, h => by
    simp only [cellsAt, Option.some.injEq] at h
    subst h
    simp [loadCellsFrom, pure, Sem.run]
  | n + 1, i, acc, cs, h => by
    unfold cellsAt at h
    split at h
    · rename_i v l hv hl
      injection h with h
      subst h
      unfold loadCellsFrom
      simp only [bind, load, Sem.bind, Sem.run, addr_add, hv]
      rw [run_loadCellsFrom n (i + 1) (acc.push v) l (by rw [← hl, Nat.add_assoc])]
      simp
    · cases h

theorem run_loadAgg {P : Program} {t : TypeId} {n : Nat} (hagg : isAggT P t = true) (hs : (P.info? t).map (·.size) = some n) {w : World} {b o : Nat} {cs : List Value} (h : cellsAt w b o n = some cs) :
    (Instr.loadAt t (.pointer (some ⟨b, o, none⟩))).run P w = .ok (.agg cs.toArray) w := by
  obtain ⟨i, hi, hn⟩ := Option.map_eq_some_iff.1 hs
  unfold isAggT at hagg
  cases hd : P.underlying t with
  | none => rw [hd] at hagg; cases hagg
  | some d =>
    rw [hd] at hagg
    have hl := run_loadCellsFrom (P := P) (o := o) n 0 #[] cs (by simpa using h)
    simp only [Instr.loadAt, Instr.sureAddr, loadVar, isAgg, underlying, program, pure, bind, Sem.bind, Sem.run, hd]
    cases d <;> first
      | (simp at hagg; done)
      | (simp only [Sem.bind, sizeOf, typeInfo, program, pure, bind, Sem.run, if_true, hi, hn]
         rw [show (Sem.bind (loadCells ⟨b, o, none⟩ n) fun x => Sem.pure (Value.agg x)).run P w = _ from run_bind ..]
         rw [show loadCells ⟨b, o, none⟩ n = loadCellsFrom ⟨b, o, none⟩ 0 n #[] from rfl, hl]
         simp [Sem.run])

theorem cellsAt_heap {w w' : World} (b : Nat) (h : w'.heap[b]? = w.heap[b]?) : ∀ (n o : Nat), cellsAt w' b o n = cellsAt w b o n
  | 0, _ => rfl
  | n + 1, o => by
    unfold cellsAt
    rw [cellsAt_heap b h n (o + 1), show w'.cell? ⟨b, o, none⟩ = w.cell? ⟨b, o, none⟩ from World.cell?_of_block h]

theorem RUN_loadA {P : Program} {t : TypeId} {n : Nat} (hagg : isAggT P t = true) (hs : (P.info? t).map (·.size) = some n) {w : World} {b o : Nat} {cs : List Value} {K : Value → World → Prop} (h : cellsAt w b o n = some cs) :
    RUN P (Instr.loadAt t (.pointer (some ⟨b, o, none⟩))) w K = K (.agg cs.toArray) w := RUN_eq (run_loadAgg hagg hs h)

theorem READ_loadA {P : Program} {t : TypeId} {n : Nat} (hagg : isAggT P t = true) (hs : (P.info? t).map (·.size) = some n) {w : World} {b o : Nat} {cs : List Value} {K : Value → Prop} (h : cellsAt w b o n = some cs) :
    READ P (SAME w) (Instr.loadAt t (.pointer (some ⟨b, o, none⟩))) w.drew K = K (.agg cs.toArray) :=
  READ_eq (run_loadAgg hagg hs ((cellsAt_heap (w := w) (w' := w.drew) b rfl n o).trans h)) fun w' hw => run_loadAgg hagg hs ((cellsAt_heap b (by rw [show w'.heap = w.heap from hw]) n o).trans h)

theorem READ_loadAK {P : Program} {t : TypeId} {n : Nat} (hagg : isAggT P t = true) (hs : (P.info? t).map (·.size) = some n) {X : Nat → Prop} {w w1 : World} {b o : Nat} {cs : List Value} {K : Value → Prop} (h : cellsAt w b o n = some cs) (hb : b < w.heap.size) (hx : ¬ X b) (hk : KP X w w1) :
    READ P (KP X w) (Instr.loadAt t (.pointer (some ⟨b, o, none⟩))) w1 K = K (.agg cs.toArray) :=
  READ_eq (run_loadAgg hagg hs ((cellsAt_heap b (hk b hb hx) n o).trans h)) fun w' hw => run_loadAgg hagg hs ((cellsAt_heap b (hw b hb hx) n o).trans h)

theorem cellsAt_own {w : World} {b : Nat} {cs : List Value} {ty : TypeId} (h : Own w b cs ty) : ∀ (n o : Nat), o + n ≤ cs.length → cellsAt w b o n = some ((cs.drop o).take n)
  | 0, o, _ => by simp [cellsAt]
  | n + 1, o, ho => by
    unfold cellsAt
    have hlt : o < cs.length := by omega
    rw [h.cell (List.getElem?_eq_getElem hlt), cellsAt_own h n (o + 1) (by omega)]
    simp only [Option.some.injEq]
    rw [List.drop_eq_getElem_cons hlt, List.take_succ_cons]

theorem cell?_drew (w : World) (a : Addr) : w.drew.cell? a = w.cell? a := rfl

end Go.Sx
