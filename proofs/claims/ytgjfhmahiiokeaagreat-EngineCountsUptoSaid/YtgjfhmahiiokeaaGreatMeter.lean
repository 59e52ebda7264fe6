import Derived.Test.YtgjfhmahiiokeaaGreatSlices
import Derived.Test.YtgjfhmahiiokeaaGreatLib
set_option linter.unusedVariables false
set_option linter.unusedSimpArgs false
set_option linter.unusedVariables false
set_option linter.unusedSimpArgs false
set_option maxRecDepth 8000
namespace Go.Proofs.YtgjfhmahiiokeaaGreat.Y
open Go Go.Sx
variable {hu mo : Int}

/-! ### Handles through which reading is counted -/
def mV : Option Nat → Value
  | none => .pointer none
  | some b => .pointer (some ⟨b, 0, none⟩)
/-- A meter, and what it counted; there may be none. -/
def MeterAt (hu mo : Int) (w : World) (o : Option Nat) (s l : Int) : Prop := ∀ b, o = some b → Own w b [.int .i64 s, .int .i64 l, .int .i64 hu, .int .i64 mo] 86

theorem MeterAt.chg {S : Nat → Prop} {w w' : World} {o : Option Nat} {s l : Int} (h : MeterAt hu mo w o s l) (hc : Chg S w w') (hs : ∀ b, o = some b → ¬ S b) : MeterAt hu mo w' o s l := fun b hb => (h b hb).chg hc (hs b hb)
theorem MeterAt.ext {w w' : World} {o : Option Nat} {s l : Int} (h : MeterAt hu mo w o s l) (hc : Ext w w') : MeterAt hu mo w' o s l := h.chg hc fun _ _ x => x
theorem MeterAt.none (w : World) (s l : Int) : MeterAt hu mo w none s l := fun _ h => by cases h

structure IsText (w : World) (lo hi tb : Nat) (o : Option Nat) (line : List UInt8) : Prop where
  ex : ∃ sv, Own w tb [mV o, sv] 205 ∧ SlB w sv line ∧ (lo ≤ tb ∧ tb < hi) ∧ ∀ k, sv.ownBlock = some k → lo ≤ k ∧ k < hi
theorem IsText.chg {S : Nat → Prop} {w w' : World} {lo hi tb : Nat} {o : Option Nat} {line : List UInt8} (h : IsText w lo hi tb o line) (hc : Chg S w w') (hs : ∀ i, S i → i < lo ∨ hi ≤ i) : IsText w' lo hi tb o line := by
  obtain ⟨sv, h1, h2, h3, h4⟩ := h.ex
  exact ⟨sv, h1.chg hc (fun hS => by have := hs _ hS; omega), h2.chg hc (fun k hk hS => by have := hs _ hS; have := h4 k hk; omega), h3, h4⟩
theorem IsText.ext {w w' : World} {lo hi tb : Nat} {o : Option Nat} {line : List UInt8} (h : IsText w lo hi tb o line) (hc : Ext w w') : IsText w' lo hi tb o line := h.chg hc fun _ x => x.elim

/-- Nothing in these blocks is another. -/
def Still (lo hi : Nat) (w w' : World) : Prop := ∀ k, lo ≤ k → k < hi → w'.heap[k]? = w.heap[k]?
theorem Still.own {lo hi : Nat} {w w' : World} (h : Still lo hi w w') {b : Nat} {cs : List Value} {t : TypeId} (ho : Own w b cs t) (h1 : lo ≤ b) (h2 : b < hi) : Own w' b cs t := (h b h1 h2).trans ho

/-- A table: what it says of a state and a byte. -/
structure IsTable (w : World) (lo hi tb : Nat) (o : Option Nat) (dom : Int → Prop) (f : Int → UInt8 → Int) : Prop where
  ex : ∃ fid caps, Own w tb [mV o, .func (.func fid) #[] caps] 211 ∧ (lo ≤ tb ∧ tb < hi ∧ hi ≤ w.heap.size) ∧ ∀ w', Still lo hi w w' → hi ≤ w'.heap.size → ∀ s (c : UInt8), dom s → RET Tryz.prog fid (.agg #[.int .i64 s, .int .u8 c.toNat] :: caps.toList) w' fun v w'' => v = .int .i64 (f s c) ∧ Ext w' w''
theorem IsTable.chg {S : Nat → Prop} {w w' : World} {lo hi tb : Nat} {o : Option Nat} {dom : Int → Prop} {f : Int → UInt8 → Int} (h : IsTable w lo hi tb o dom f) (hc : Chg S w w') (hs : ∀ i, S i → i < lo ∨ hi ≤ i) : IsTable w' lo hi tb o dom f := by
  obtain ⟨fid, caps, h1, h2, h3⟩ := h.ex
  have hsz := hc.size
  refine ⟨fid, caps, h1.chg hc (fun hS => by have := hs _ hS; omega), by omega, fun w'' hst hi' => h3 w'' (fun k k1 k2 => ?_) hi'⟩
  rw [hst k k1 k2]
  exact hc.block k (by omega) (fun hS => by have := hs _ hS; omega)
theorem IsTable.ext {w w' : World} {lo hi tb : Nat} {o : Option Nat} {dom : Int → Prop} {f : Int → UInt8 → Int} (h : IsTable w lo hi tb o dom f) (hc : Ext w w') : IsTable w' lo hi tb o dom f := h.chg hc fun _ x => x.elim

section
variable {w : World} {o : Option Nat} {s l : Int}

theorem meter_New : RET Tryz.prog 18 [] w fun v w' => v = mV (some w.heap.size) ∧ MeterAt 0 0 w' (some w.heap.size) 0 0 ∧ Ext w w' := by
  apply by_meter_New
  unfold sh_meter_New
  simp only [SX, Nat.reduceAdd]
  refine BOXA fun w1 o1 e1 z1 => ⟨rfl, fun b hb => ?_, e1⟩
  injection hb with hb
  subst hb
  exact o1

theorem meter_Counts (h : MeterAt hu mo w o s l) : RET Tryz.prog 19 [mV o] w fun v w' => v = .agg (match o with | none => #[.int .i64 0, .int .i64 0, .int .i64 0, .int .i64 0] | some _ => #[.int .i64 s, .int .i64 l, .int .i64 hu, .int .i64 mo]) ∧ Ext w w' := by
  refine RET_by fun R k => ?_
  apply by_meter_Meter_Counts
  unfold sh_meter_Meter_Counts
  refine AL_49 fun w1 o1 e1 z1 => ?_
  cases o with
  | none =>
    simp (disch := omega) only [mV, SX, Nat.reduceAdd]
    refine STOREA SZ_49 (vs := [.int .i64 0, .int .i64 0, .int .i64 0, .int .i64 0]) rfl o1 (by simp) (by simp [Value.oneCell']) fun w2 o2 c2 z2 => ?_
    exact LOADRES_A (by kernel_rfl) SZ_49 (cellsAt_whole o2 rfl) (k _ _ ⟨rfl, e1.ext_of c2 fun i hi => by omega⟩)
  | some b =>
    have hb := (h b rfl).ext e1
    simp (disch := omega) only [mV, SX, Nat.reduceAdd]
    rw [LA_49 (cellsAt_whole hb rfl)]
    refine STOREA SZ_49 rfl o1 (by simp) (by simp [Value.oneCell']) fun w2 o2 c2 z2 => ?_
    exact LOADRES_A (by kernel_rfl) SZ_49 (cellsAt_whole o2 rfl) (k _ _ ⟨rfl, e1.ext_of c2 fun i hi => by omega⟩)

/-- Where it is counted. -/
theorem meter_count (h : MeterAt hu mo w o s l) : RET Tryz.prog 132 [mV o] w fun v w' => Ext w w' ∧ ((o = none ∧ v = .pointer (some ⟨w.heap.size, 0, none⟩) ∧ Own w' w.heap.size [.int .i64 0, .int .i64 0, .int .i64 0, .int .i64 0] 49) ∨ ∃ b, o = some b ∧ v = .pointer (some ⟨b, 0, none⟩)) := by
  refine RET_by fun R k => ?_
  apply by_meter_Meter_count
  unfold sh_meter_Meter_count
  cases o with
  | none =>
    simp (disch := omega) only [mV, SX, Nat.reduceAdd]
    refine BOXA fun w1 o1 e1 z1 => k _ _ ⟨e1, .inl ⟨rfl, rfl, o1⟩⟩
  | some b =>
    simp (disch := omega) only [mV, SX, Nat.reduceAdd]
    exact k _ _ ⟨Ext.refl w, .inr ⟨b, rfl, rfl⟩⟩

theorem meter_Text {bv : Value} {line : List UInt8} (hb : SlB w bv line) : RET Tryz.prog 124 [mV o, bv] w fun v w' => ∃ tb, v = .pointer (some ⟨tb, 0, none⟩) ∧ IsText w' w.heap.size w'.heap.size tb o line ∧ Ext w w' := by
  refine RET_by fun R k => ?_
  apply by_meter_Meter_Text
  unfold sh_meter_Meter_Text
  refine CALL_of (slices_CloneB hb) ?_
  rintro v w1 ⟨hv, e1, hfr⟩
  obtain ⟨A, c, rfl⟩ := hv.shape
  have hm : mV o = .pointer (o.map fun b => ⟨b, 0, none⟩) := by cases o <;> rfl
  rw [hm]
  simp (disch := omega) only [SX, Nat.reduceAdd]
  refine BOXA fun w2 o2 e2 z2 => k _ _ ⟨_, rfl, ⟨_, by rw [hm]; exact o2, hv.ext e2, ⟨e1.size, by omega⟩, fun b hk => by have := hfr b hk; have := e2.size; omega⟩, e1.trans e2⟩

theorem text_Len {lo hi tb : Nat} {line : List UInt8} (h : IsText w lo hi tb o line) : RET Tryz.prog 126 [.pointer (some ⟨tb, 0, none⟩)] w fun v w' => v = .int .i64 line.length ∧ w' = w := by
  obtain ⟨sv, h1, h2, h3, h4⟩ := h.ex
  obtain ⟨A, c, rfl⟩ := h2.shape
  refine RET_by fun R k => ?_
  apply by_meter_Text_Len
  unfold sh_meter_Text_Len
  simp (disch := omega) only [SX, Nat.reduceAdd, LD_23 (h1.cell (i := 1) rfl)]
  exact k _ _ ⟨rfl, rfl⟩

theorem text_At {lo hi tb : Nat} {line : List UInt8} (h : IsText w lo hi tb o line) (hm : MeterAt hu mo w o s l) (hb : 0 ≤ s ∧ s ≤ 2 ^ 50) (ho : ∀ b, o = some b → b < lo ∨ hi ≤ b) {i : Nat} (hi' : i < line.length) :
    RET Tryz.prog 128 [.pointer (some ⟨tb, 0, none⟩), .int .i64 i] w fun v w' => v = .int .i64 (line[i].toNat : Nat) ∧ MeterAt hu mo w' o (s + 1) l ∧ Chg (fun k => some k = o) w w' := by
  have hll : line.length ≤ 140737488355328 := by obtain ⟨_, _, h2, _⟩ := h.ex; exact h2.len
  refine RET_by fun R k => ?_
  apply by_meter_Text_At
  unfold sh_meter_Text_At
  refine ⟨fun w1 => w1 = w, ?_, ?_⟩
  · simp (disch := omega) only [SX, Nat.reduceAdd, show ¬ ((i : Int) < 0) by omega]
    refine CALL_of (text_Len h) ?_
    rintro v w1 ⟨rfl, rfl⟩
    simp (disch := omega) only [SX, Nat.reduceAdd, show ¬ ((line.length : Int) ≤ (i : Int)) by omega]
  rintro _ rfl
  rename_i w
  obtain ⟨sv, h1, h2, h3, h4⟩ := h.ex
  have hmv : w.cell? ⟨tb, 0, none⟩ = some (mV o) := h1.cell rfl
  simp (disch := omega) only [SX, Nat.reduceAdd]
  rw [LD_46 hmv]
  refine CALL_of (meter_count hm) ?_
  rintro v w1 ⟨e1, hv⟩
  have fin : ∀ w2, Chg (fun k => some k = o) w w2 → MeterAt hu mo w2 o (s + 1) l → (RUN Tryz.prog (Instr.loadAt 23 (.pointer (some ⟨tb, 1, none⟩))) w2 fun v20 w => PURE Tryz.prog (Instr.indexAt 23 v20 (.int .i64 i)) fun v21 => RUN Tryz.prog (Instr.loadAt 5 v21) w fun v22 w => PURE Tryz.prog (convert 5 3 v22) fun v23 => R v23 w) := by
    intro w2 hc hm2
    obtain ⟨sv', h1', h2', _, _⟩ := (h.chg hc (fun i hi => ho i hi.symm)).ex
    obtain ⟨b, oo, c, hv, hcell⟩ := h2'.at hi'
    subst hv
    have hby := line[i].toNat_lt
    have hw64 : IntKind.i64.wrap ((line[i].toNat : Nat) : Int) = (line[i].toNat : Nat) := by simp [IntKind.wrap, IntKind.bits, IntKind.signed]; omega
    simp (disch := omega) only [SX, Nat.reduceAdd, LD_23 (h1'.cell (i := 1) rfl), LD_5 hcell, hw64]
    exact k _ _ ⟨rfl, hm2, hc⟩
  rcases hv with ⟨ho', rfl, o1⟩ | ⟨b, hob, rfl⟩
  · subst ho'
    simp (disch := omega) only [SX, Nat.reduceAdd, LD_3 (o1.cell (i := 0) rfl)]
    refine STORE SZ_3 o1 (by simp) rfl rfl fun w2 o2 c2 z2 => ?_
    try simp (disch := omega) only [SX, Nat.reduceAdd]
    exact fin w2 ((e1.ext_of c2 fun i hi => by omega).chg) (MeterAt.none _ _ _)
  · subst hob
    have hb1 := (hm b rfl).ext e1
    simp (disch := omega) only [SX, Nat.reduceAdd, LD_3 (hb1.cell (i := 0) rfl)]
    refine STORE SZ_3 hb1 (by simp) rfl rfl fun w2 o2 c2 z2 => ?_
    try simp (disch := omega) only [SX, Nat.reduceAdd]
    refine fin w2 ((e1.chg (S := fun k => some k = some b)).then c2 (fun _ _ x => x) (fun _ _ x => by rw [x])) (fun b' hb' => ?_)
    injection hb' with hb'
    subst hb'
    exact o2

theorem table_Look {lo hi tb : Nat} {dom : Int → Prop} {f : Int → UInt8 → Int} (h : IsTable w lo hi tb o dom f) (hm : MeterAt hu mo w o s l) (hb : 0 ≤ l ∧ l ≤ 2 ^ 50) (ho : ∀ b, o = some b → b < lo ∨ hi ≤ b) (st : Int) (c : UInt8) (hd : dom st) :
    RET Tryz.prog 131 [.pointer (some ⟨tb, 0, none⟩), .int .i64 st, .int .u8 c.toNat] w fun v w' => v = .int .i64 (f st c) ∧ MeterAt hu mo w' o s (l + 1) ∧ Chg (fun k => some k = o) w w' := by
  refine RET_by fun R k => ?_
  apply by_meter_Table_Look
  unfold sh_meter_Table_Look
  obtain ⟨fid, caps, h1, h2, h3⟩ := h.ex
  have hmv : w.cell? ⟨tb, 0, none⟩ = some (mV o) := h1.cell rfl
  simp (disch := omega) only [SX, Nat.reduceAdd]
  rw [LD_46 hmv]
  refine CALL_of (meter_count hm) ?_
  rintro v w1 ⟨e1, hv⟩
  have fin : ∀ w2, Chg (fun k => some k = o) w w2 → MeterAt hu mo w2 o s (l + 1) → (RUN Tryz.prog (Instr.loadAt 209 (.pointer (some ⟨tb, 1, none⟩))) w2 fun v17 w => CALLV Tryz.prog v17 [.agg #[.int .i64 st, .int .u8 c.toNat]] w NOPE fun v19 w => R v19 w) := by
    intro w2 hc hm2
    have hh := h.chg hc (fun i hi => ho i hi.symm)
    obtain ⟨fid, caps, h1', h2', h3'⟩ := hh.ex
    rw [LD_209 (h1'.cell (i := 1) rfl)]
    refine CALLV_of (h3' w2 (fun _ _ _ => rfl) h2'.2.2 st c hd) ?_
    rintro v w3 ⟨rfl, e3⟩
    exact k _ _ ⟨rfl, hm2.ext e3, hc.then e3 (fun _ _ x => x) (fun _ _ x => x.elim)⟩
  rcases hv with ⟨ho', rfl, o1⟩ | ⟨b, hob, rfl⟩
  · subst ho'
    simp (disch := omega) only [SX, Nat.reduceAdd, LD_3 (o1.cell (i := 1) rfl)]
    refine STORE SZ_3 o1 (by simp) rfl rfl fun w2 o2 c2 z2 => ?_
    try simp (disch := omega) only [SX, Nat.reduceAdd]
    exact fin w2 ((e1.ext_of c2 fun i hi => by omega).chg) (MeterAt.none _ _ _)
  · subst hob
    have hb1 := (hm b rfl).ext e1
    simp (disch := omega) only [SX, Nat.reduceAdd, LD_3 (hb1.cell (i := 1) rfl)]
    refine STORE SZ_3 hb1 (by simp) rfl rfl fun w2 o2 c2 z2 => ?_
    try simp (disch := omega) only [SX, Nat.reduceAdd]
    refine fin w2 ((e1.chg (S := fun k => some k = some b)).then c2 (fun _ _ x => x) (fun _ _ x => by rw [x])) (fun b' hb' => ?_)
    injection hb' with hb'
    subst hb'
    exact o2
end
end Go.Proofs.YtgjfhmahiiokeaaGreat.Y
