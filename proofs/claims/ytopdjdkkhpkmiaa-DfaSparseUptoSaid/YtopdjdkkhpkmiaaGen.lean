import Derived.Test.YtopdjdkkhpkmiaaEff
import Derived.Laws.StructEq
set_option linter.unusedVariables false
set_option linter.unusedSimpArgs false
namespace Go.Sx
open Go

/-! ### Operations by the program's tables -/
section
variable {P : Program} {K : Value → Prop}

theorem PURE_index {t e : TypeId} {sz : Nat} (ht : P.underlying t = some (.slice e)) (hs : (P.info? e).map (·.size) = some sz) {k : IntKind} {b o n c : Nat} {i : Int} (h0 : 0 ≤ i) (h1 : i < (n : Int)) :
    PURE P (Instr.indexAt t (.slice (some ⟨b, o, none⟩) n c) (.int k i)) K = K (.pointer (some ⟨b, o + i.toNat * sz, none⟩)) := PURE_eq fun w => by
  obtain ⟨inf, hinf, hn⟩ := Option.map_eq_some_iff.1 hs
  simp [Instr.indexAt, asIntOf, underlying, program, sizeOf, typeInfo, pure, bind, Sem.bind, Sem.run, ht, hinf, hn, h0, h1, addr_add]

theorem PURE_indexA {t e : TypeId} {m sz : Nat} (ht : P.underlying t = some (.array m e)) (hs : (P.info? e).map (·.size) = some sz) {k : IntKind} {b o : Nat} {i : Int} (h0 : 0 ≤ i) (h1 : i < (m : Int)) :
    PURE P (Instr.indexAt t (.pointer (some ⟨b, o, none⟩)) (.int k i)) K = K (.pointer (some ⟨b, o + i.toNat * sz, none⟩)) := PURE_eq fun w => by
  obtain ⟨inf, hinf, hn⟩ := Option.map_eq_some_iff.1 hs
  simp [Instr.indexAt, Instr.sureAddr, asIntOf, underlying, program, sizeOf, typeInfo, pure, bind, Sem.bind, Sem.run, ht, hinf, hn, h0, h1, addr_add]

/-- Where a slice of a slice begins. -/
def sub (a : Option Addr) (c l sz : Nat) : Option Addr := if c = l then a else a.map (·.add (l * sz))

theorem PURE_slice {t e : TypeId} {sz : Nat} (ht : P.underlying t = some (.slice e)) (hs : (P.info? e).map (·.size) = some sz) {j k : IntKind} {a : Option Addr} {n c : Nat} {l h : Int} (h0 : 0 ≤ l) (h1 : l ≤ h) (h2 : h ≤ (c : Int)) :
    PURE P (Instr.sliceAt t (.slice a n c) (some (.int j l)) (some (.int k h)) none) K = K (.slice (sub a c l.toNat sz) (h.toNat - l.toNat) (c - l.toNat)) := PURE_eq fun w => by
  obtain ⟨inf, hinf, hn⟩ := Option.map_eq_some_iff.1 hs
  simp [Instr.sliceAt, Instr.slice, Instr.sliceBounds, Instr.sliceBound, asIntOf, underlying, program, sizeOf, typeInfo, pure, bind, Sem.bind, Sem.run, ht, hinf, hn, sub,
    show 0 ≤ h by omega, h2, h0, show l ≤ max h 0 by omega]
theorem PURE_slice_lo {t e : TypeId} {sz : Nat} (ht : P.underlying t = some (.slice e)) (hs : (P.info? e).map (·.size) = some sz) {j : IntKind} {a : Option Addr} {n c : Nat} {l : Int} (h0 : 0 ≤ l) (h1 : l ≤ (n : Int)) :
    PURE P (Instr.sliceAt t (.slice a n c) (some (.int j l)) none none) K = K (.slice (sub a c l.toNat sz) (n - l.toNat) (c - l.toNat)) := PURE_eq fun w => by
  obtain ⟨inf, hinf, hn⟩ := Option.map_eq_some_iff.1 hs
  simp [Instr.sliceAt, Instr.slice, Instr.sliceBounds, Instr.sliceBound, asIntOf, underlying, program, sizeOf, typeInfo, pure, bind, Sem.bind, Sem.run, ht, hinf, hn, sub, h0, h1]
theorem PURE_slice_hi {t e : TypeId} {sz : Nat} (ht : P.underlying t = some (.slice e)) (hs : (P.info? e).map (·.size) = some sz) {k : IntKind} {a : Option Addr} {n c : Nat} {h : Int} (h0 : 0 ≤ h) (h2 : h ≤ (c : Int)) :
    PURE P (Instr.sliceAt t (.slice a n c) none (some (.int k h)) none) K = K (.slice (sub a c 0 sz) h.toNat c) := PURE_eq fun w => by
  obtain ⟨inf, hinf, hn⟩ := Option.map_eq_some_iff.1 hs
  simp [Instr.sliceAt, Instr.slice, Instr.sliceBounds, Instr.sliceBound, asIntOf, underlying, program, sizeOf, typeInfo, pure, bind, Sem.bind, Sem.run, ht, hinf, hn, sub, h0, h2]
theorem PURE_slice3 {t e : TypeId} {sz : Nat} (ht : P.underlying t = some (.slice e)) (hs : (P.info? e).map (·.size) = some sz) {j k i : IntKind} {a : Option Addr} {n c : Nat} {l h m : Int} (h0 : 0 ≤ l) (h1 : l ≤ h) (h2 : h ≤ m) (h3 : m ≤ (c : Int)) :
    PURE P (Instr.sliceAt t (.slice a n c) (some (.int j l)) (some (.int k h)) (some (.int i m))) K = K (.slice (sub a m.toNat l.toNat sz) (h.toNat - l.toNat) (m.toNat - l.toNat)) := PURE_eq fun w => by
  obtain ⟨inf, hinf, hn⟩ := Option.map_eq_some_iff.1 hs
  simp [Instr.sliceAt, Instr.slice, Instr.sliceBounds, Instr.sliceBound, asIntOf, underlying, program, sizeOf, typeInfo, pure, bind, Sem.bind, Sem.run, ht, hinf, hn, sub, h0, h3,
    show 0 ≤ h by omega, show 0 ≤ m by omega, show h ≤ max m 0 by omega, show l ≤ max h 0 by omega]

theorem PURE_sindex {t : TypeId} (ht : P.underlying t = some .string) {k : IntKind} {s : ByteArray} {i : Int} (h0 : 0 ≤ i) (h1 : i < (s.size : Int)) :
    PURE P (Instr.index t (.string s) (.int k i)) K = K (.int .u8 ((s.data.toList.getD i.toNat 0).toNat : Int)) := PURE_eq fun w => by
  have hlt : i.toNat < s.size := by omega
  have hb : s[i.toNat]? = some s[i.toNat] := getElem?_pos s i.toNat hlt
  have hl : s.data.toList.getD i.toNat 0 = s[i.toNat] := by
    have : i.toNat < s.data.toList.length := by simpa using hlt
    rw [List.getD_eq_getElem?_getD, List.getElem?_eq_getElem this]
    rfl
  simp only [Instr.index, asIntOf, underlying, program, pure, bind, Sem.bind, Sem.run, ht, h0, if_true, hb, hl]
theorem PURE_aindex {t e : TypeId} {m sz : Nat} {d : TypeDesc} (ht : P.underlying t = some (.array m e)) (hd : P.underlying e = some d) (ha : isAggT P e = false) (hs : (P.info? e).map (·.size) = some sz) {k : IntKind} {cs : Array Value} {i : Int} {v : Value} (h0 : 0 ≤ i) (h1 : i < (m : Int)) (hv : cs[i.toNat * sz]? = some v) :
    PURE P (Instr.index t (.agg cs) (.int k i)) K = K v := PURE_eq fun w => by
  obtain ⟨inf, hinf, hn⟩ := Option.map_eq_some_iff.1 hs
  simp only [Instr.index, asIntOf, underlying, program, sizeOf, typeInfo, pure, bind, Sem.bind, Sem.run, ht, h0, h1, and_self, if_true, hinf, hn]
  unfold isAggT at ha
  rw [hd] at ha
  simp only [part, isAgg, underlying, program, pure, bind, Sem.bind, Sem.run, hd]
  cases d <;> first | (simp at ha; done) | simp [Sem.bind, Sem.run, hv]
theorem PURE_sslice {t : TypeId} (ht : P.underlying t = some .string) {j k : IntKind} {s : ByteArray} {l h : Int} (h0 : 0 ≤ l) (h1 : l ≤ h) (h2 : h ≤ (s.size : Int)) :
    PURE P (Instr.sliceAt t (.string s) (some (.int j l)) (some (.int k h)) none) K = K (.string (s.extract l.toNat h.toNat)) := PURE_eq fun w => by
  simp [Instr.sliceAt, Instr.slice, Instr.sliceBounds, Instr.sliceBound, asIntOf, underlying, program, pure, bind, Sem.bind, Sem.run, ht, show 0 ≤ h by omega, h2, h0, show l ≤ max h 0 by omega]
theorem PURE_sslice_lo {t : TypeId} (ht : P.underlying t = some .string) {j : IntKind} {s : ByteArray} {l : Int} (h0 : 0 ≤ l) (h1 : l ≤ (s.size : Int)) :
    PURE P (Instr.sliceAt t (.string s) (some (.int j l)) none none) K = K (.string (s.extract l.toNat s.size)) := PURE_eq fun w => by
  simp [Instr.sliceAt, Instr.slice, Instr.sliceBounds, Instr.sliceBound, asIntOf, underlying, program, pure, bind, Sem.bind, Sem.run, ht, h0, h1]
theorem PURE_sslice_hi {t : TypeId} (ht : P.underlying t = some .string) {k : IntKind} {s : ByteArray} {h : Int} (h0 : 0 ≤ h) (h2 : h ≤ (s.size : Int)) :
    PURE P (Instr.sliceAt t (.string s) none (some (.int k h)) none) K = K (.string (s.extract 0 h.toNat)) := PURE_eq fun w => by
  simp [Instr.sliceAt, Instr.slice, Instr.sliceBounds, Instr.sliceBound, asIntOf, underlying, program, pure, bind, Sem.bind, Sem.run, ht, h0, h2]

theorem sub_zero (a : Option Addr) (c sz : Nat) : sub a c 0 sz = a := by
  unfold sub
  split
  · rfl
  · cases a <;> simp [Addr.add]

theorem Rd_sub {w : World} {a : Option Addr} {vs : List Value} (h : Rd w a vs) {c l sz : Nat} (hc : vs.length ≤ c * sz) (us : List Value) (hu : ∀ i u, us[i]? = some u → vs[l * sz + i]? = some u) : Rd w (sub a c l sz) us := by
  unfold sub
  split
  · rename_i e
    left
    cases us with
    | nil => rfl
    | cons u us =>
      have := hu 0 u rfl
      have := (List.getElem?_eq_some_iff.1 this).1
      subst e
      omega
  · rcases h with rfl | ⟨b, o, rfl, h⟩
    · left
      cases us with
      | nil => rfl
      | cons u us => have := hu 0 u rfl; simp at this
    · exact .inr ⟨b, o + l * sz, by simp [addr_add], fun i v hi => by rw [Nat.add_assoc]; exact h _ _ (hu i v hi)⟩

/-! ### '==' of structs -/
theorem run_part {f : TypeId} {d : TypeDesc} (hd : P.underlying f = some d) (ha : isAggT P f = false) {cs : Array Value} {o : Nat} {v : Value} (hv : cs[o]? = some v) (w : World) : (part f cs o).run P w = .ok v w := by
  unfold isAggT at ha
  rw [hd] at ha
  simp only [part, isAgg, underlying, program, pure, bind, Sem.bind, Sem.run, hd]
  cases d <;> first | (simp at ha; done) | simp [Sem.bind, Sem.run, hv]

theorem eqF_nil {d : Nat} {xs ys : Array Value} {w : World} : (Op.eqFields d xs ys []).run P w = .ok true w := by simp [Op.eqFields]

theorem eqF_step {d : Nat} {xs ys : Array Value} {f : Field} {fs : List Field} {w : World} {a b : Value} {r s : Bool} (hn : (f.name == "_") = false) (ha : (part f.type xs f.offset).run P w = .ok a w) (hb : (part f.type ys f.offset).run P w = .ok b w)
    (he : (Op.equalIn d f.type a b).run P w = .ok r w) (hr : (Op.eqFields d xs ys fs).run P w = .ok s w) : (Op.eqFields d xs ys (f :: fs)).run P w = .ok (r && s) w := by
  have hn' : f.name ≠ "_" := by simpa using hn
  rw [Op.eqFields]
  simp only [if_pos hn', Sem.run_bind, ha, hb, he, Result.andThen_ok]
  cases r
  · simp
  · simpa using hr

theorem eqF_int {d : Nat} {xs ys : Array Value} {f : Field} {fs : List Field} {w : World} {k : IntKind} {a b : Int} {s : Bool} (hn : (f.name == "_") = false) (hu : P.underlying f.type = some (.int k)) (hx : xs[f.offset]? = some (.int k a)) (hy : ys[f.offset]? = some (.int k b))
    (hr : (Op.eqFields (d + 1) xs ys fs).run P w = .ok s w) : (Op.eqFields (d + 1) xs ys (f :: fs)).run P w = .ok (decide (a = b) && s) w := by
  have hagg : isAggT P f.type = false := by simp [isAggT, hu]
  refine eqF_step hn (run_part hu hagg hx w) (run_part hu hagg hy w) ?_ hr
  simp only [Op.equalIn, underlying, program, pure, bind, Sem.bind, Sem.run, hu, if_true]
  rfl

theorem eqF_bool {d : Nat} {xs ys : Array Value} {f : Field} {fs : List Field} {w : World} {a b : Bool} {s : Bool} (hn : (f.name == "_") = false) (hu : P.underlying f.type = some .bool) (hx : xs[f.offset]? = some (.bool a)) (hy : ys[f.offset]? = some (.bool b))
    (hr : (Op.eqFields (d + 1) xs ys fs).run P w = .ok s w) : (Op.eqFields (d + 1) xs ys (f :: fs)).run P w = .ok (decide (a = b) && s) w := by
  have hagg : isAggT P f.type = false := by simp [isAggT, hu]
  refine eqF_step hn (run_part hu hagg hx w) (run_part hu hagg hy w) ?_ hr
  simp only [Op.equalIn, underlying, program, pure, bind, Sem.bind, Sem.run, hu, if_true]
  cases a <;> cases b <;> rfl

theorem run_equal_struct {t : TypeId} {fs : Array Field} (ht : P.underlying t = some (.struct fs)) (hp : P.stoodInHeld t = false) {xs ys : Array Value} {w : World} {r : Bool} (h : (Op.eqFields 9999 xs ys fs.toList).run P w = .ok r w) :
    (Op.equal t (.agg xs) (.agg ys)).run P w = .ok r w := by
  have hf : P.fieldsOf t = fs := by simp [Program.fieldsOf, ht]
  show (Op.equalIn (9999 + 1) t _ _).run P w = _
  rw [run_equalIn_struct (P := P) w 9999 t xs ys (by rw [hf]; exact ht) hp, hf]
  exact h

theorem PURE_eqlS {t : TypeId} {x y : Operand} {xs ys : Array Value} {r : Bool} (hg : P.eqGuardType P.depth t = false) (h : ∀ w, (Op.equal t (.agg xs) (.agg ys)).run P w = .ok r w) : PURE P (BINS .eql t x y (.agg xs) (.agg ys)) K = K (.bool r) := PURE_eq fun w => by
  simp [BINS, eqGuard, binOp, program, pure, bind, Sem.bind, Sem.run, hg]
  rw [Sx.run_bind, h]
  rfl
theorem PURE_neqS {t : TypeId} {x y : Operand} {xs ys : Array Value} {r : Bool} (hg : P.eqGuardType P.depth t = false) (h : ∀ w, (Op.equal t (.agg xs) (.agg ys)).run P w = .ok r w) : PURE P (BINS .neq t x y (.agg xs) (.agg ys)) K = K (.bool (!r)) := PURE_eq fun w => by
  simp [BINS, eqGuard, binOp, program, pure, bind, Sem.bind, Sem.run, hg]
  rw [Sx.run_bind, h]
  rfl
theorem PURE_eqlV {t : TypeId} {x y : Operand} {a b : Value} {r : Bool} (h : ∀ w, (BINS .eql t x y a b).run P w = .ok (.bool r) w) : PURE P (BINS .eql t x y a b) K = K (.bool r) := PURE_eq h
end

end Go.Sx
