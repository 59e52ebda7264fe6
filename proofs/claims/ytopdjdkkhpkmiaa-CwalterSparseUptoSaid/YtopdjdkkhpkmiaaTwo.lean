import Derived.Test.YtopdjdkkhpkmiaaCrit
import Derived.Test.YtopdjdkkhpkmiaaStrs
import Derived.Test.YtopdjdkkhpkmiaaSlices
import Derived.Test.YtopdjdkkhpkmiaaFold
set_option linter.unusedVariables false
set_option linter.unusedSimpArgs false
set_option linter.unusedVariables false
set_option linter.unusedSimpArgs false
set_option maxRecDepth 8000
namespace Go.Proofs.Ytopdjdkkhpkmiaa.Y
open Go Go.Sx

/-! ### The greatest end of a text -/
def fnb (l : List UInt8) (i : Nat) : UInt8 := l.getD i 0
theorem fnb_get {l : List UInt8} {i : Nat} (h : i < l.length) : fnb l i = l[i] := by simp [fnb, List.getD, h]
def ordB (t : Bool) (a b : UInt8) : Bool := !decide ((a.toNat : Int) = (b.toNat : Int)) && (decide ((a.toNat : Int) < (b.toNat : Int)) != t)
def ordT (t : Bool) (a b : UInt8) : Prop := ordB t a b = true
theorem ordT_false {a b : UInt8} : ordT false a b ↔ a.toNat < b.toNat := by
  simp [ordT, ordB]; omega
theorem ordT_true {a b : UInt8} : ordT true a b ↔ b.toNat < a.toNat := by
  simp [ordT, ordB]; omega
theorem u8_ext {a b : UInt8} (h : a.toNat = b.toNat) : a = b := UInt8.toNat_inj.1 h
theorem ord_strict (t : Bool) : Strict (ordT t) := by
  cases t
  · refine ⟨fun x => ?_, fun x y => ?_, fun x y z => ?_, fun x y => ?_⟩
    · rw [ordT_false]; omega
    · rw [ordT_false, ordT_false]; omega
    · rw [ordT_false, ordT_false, ordT_false]; omega
    · rw [ordT_false, ordT_false]
      rcases Nat.lt_trichotomy x.toNat y.toNat with h | h | h
      · exact .inl h
      · exact .inr (.inl (u8_ext h))
      · exact .inr (.inr h)
  · refine ⟨fun x => ?_, fun x y => ?_, fun x y z => ?_, fun x y => ?_⟩
    · rw [ordT_true]; omega
    · rw [ordT_true, ordT_true]; omega
    · rw [ordT_true, ordT_true, ordT_true]; omega
    · rw [ordT_true, ordT_true]
      rcases Nat.lt_trichotomy x.toNat y.toNat with h | h | h
      · exact .inr (.inr h)
      · exact .inr (.inl (u8_ext h))
      · exact .inl h
theorem ord_op (t : Bool) (x y : UInt8) : ordT (!t) x y ↔ ordT t y x := by
  cases t
  · simp only [Bool.not_false]; rw [ordT_true, ordT_false]
  · simp only [Bool.not_true]; rw [ordT_true, ordT_false]
theorem vi {x : Int} {n : Nat} (h : x = n) : Value.int .i64 x = .int .i64 (n : Nat) := by rw [h]

/-- What is found: where the greatest end begins, and its least period. -/
structure MaxOK (l : List UInt8) (t : Bool) (i p : Nat) : Prop where
  max : MaxSuf (fnb l) l.length (ordT t) i
  p0 : 0 < p
  per : ∀ x, i + p ≤ x → x < l.length → fnb l x = fnb l (x - p)
  least : ∀ d, 0 < d → d < p → ¬ ∀ x, i + d ≤ x → x < l.length → fnb l x = fnb l (x - d)
  inn : i + p ≤ l.length

section
variable {w : World}

theorem suffix_less {cb : Nat} {t : Bool} (h : Own w cb [.bool t] 4) (a b : UInt8) : RET Try.prog 115 [.int .u8 a.toNat, .int .u8 b.toNat, .pointer (some ⟨cb, 0, none⟩)] w fun v w' => v = .bool (ordB t a b) ∧ w' = w := by
  refine RET_by fun R k => ?_
  apply by_suffix_by_1
  unfold sh_suffix_by_1
  by_cases he : (a.toNat : Int) = (b.toNat : Int)
  · simp (disch := omega) only [SX, Nat.reduceAdd, he]
    refine k _ _ ⟨?_, rfl⟩
    simp [ordB, he]
  · simp (disch := omega) only [SX, Nat.reduceAdd, he, LD_4 (h.cell (i := 0) rfl), NE_bool]
    refine k _ _ ⟨?_, rfl⟩
    simp [ordB, he]

theorem suffix_by (t : Bool) : RET Try.prog 112 [.bool t] w fun v w' => ∃ cb, v = .agg #[.func (.func 115) #[] #[.pointer (some ⟨cb, 0, none⟩)]] ∧ Own w' cb [.bool t] 4 ∧ Ext w w' := by
  refine RET_by fun R k => ?_
  apply by_suffix_by
  unfold sh_suffix_by
  refine BOX1 rfl fun w1 o1 e1 z1 => ?_
  refine AL_180 fun w2 o2 e2 z2 => ?_
  simp (disch := omega) only [SX, Nat.reduceAdd]
  refine STOREA SZ_180 (vs := [.func (.func 115) #[] #[.pointer (some ⟨w.heap.size, 0, none⟩)]]) rfl o2 (by simp) (by simp [Value.oneCell']) fun w3 o3 c3 z3 => ?_
  exact LOADRES_A (by kernel_rfl) SZ_180 (cellsAt_whole o3 rfl) (k _ _ ⟨_, rfl, (o1.ext e2).chg c3 (by omega), (e1.trans e2).ext_of c3 fun i hi => by omega⟩)

theorem suffix_Max_nil {bv : Value} (hb : SlB w bv []) (t : Bool) : RET Try.prog 103 [bv, .bool t] w fun v w' => v = .tuple #[.int .i64 0, .int .i64 0] ∧ Ext w w' := by
  obtain ⟨A, c, rfl⟩ := hb.shape
  refine RET_by fun R k => ?_
  apply by_suffix_Max
  unfold sh_suffix_Max
  simp (disch := omega) only [SX, Nat.reduceAdd, List.length_nil, Int.natCast_zero]
  exact k _ _ ⟨rfl, Ext.refl w⟩

theorem suffix_Max {bv : Value} {l : List UInt8} (hb : SlB w bv l) (hl : l ≠ []) (hs : l.length ≤ 2 ^ 40) (t : Bool) : RET Try.prog 103 [bv, .bool t] w fun v w' => (∃ i p : Nat, v = .tuple #[.int .i64 i, .int .i64 p] ∧ MaxOK l t i p) ∧ Ext w w' := by
  have hpos : 0 < l.length := List.length_pos_iff.2 hl
  obtain ⟨A, c, rfl⟩ := hb.shape
  refine RET_by fun R k => ?_
  apply by_suffix_Max
  unfold sh_suffix_Max
  simp (disch := omega) only [SX, Nat.reduceAdd, show ¬ ((l.length : Int) = 0) by omega]
  refine CALL_of (suffix_by t) ?_
  rintro v w1 ⟨cb, rfl, o1, e1⟩
  refine AL_180 fun w2 o2 e2 z2 => ?_
  refine STOREA SZ_180 (vs := [.func (.func 115) #[] #[.pointer (some ⟨cb, 0, none⟩)]]) rfl o2 (by simp) (by simp [Value.oneCell']) fun w3 o3 c3 z3 => ?_
  have o1' := (o1.ext e2).chg c3 (by have := o1.lt; omega)
  have e03 : Ext w w3 := (e1.trans e2).ext_of c3 fun i hi => by have := e1.size; omega
  have hob : w1.heap.size = w1.heap.size := rfl
  generalize w1.heap.size = ob at *
  have o3' : Own w3 ob [.func (.func 115) #[] #[.pointer (some ⟨cb, 0, none⟩)]] 180 := o3
  try simp (disch := omega) only [SX, Nat.reduceAdd]
  refine ⟨fun av nv kv pv w4 => ∃ i j n p : Nat, av = .int .i64 i ∧ nv = .int .i64 j ∧ kv = .int .i64 n ∧ pv = .int .i64 p ∧ Seek (fnb l) l.length (ordT t) i j n p ∧ Own w4 cb [.bool t] 4 ∧ Own w4 ob [.func (.func 115) #[] #[.pointer (some ⟨cb, 0, none⟩)]] 180 ∧ Ext w w4,
    fun av nv kv _ _ => 2 * l.length + 1 - (vnat av + vnat nv + vnat kv), ⟨0, 1, 0, 1, rfl, rfl, rfl, rfl, Seek.start hpos, o1', o3', e03⟩, ?_⟩
  rintro av nv kv pv w4 ⟨i, j, n, p, rfl, rfl, rfl, rfl, hk, oc, oo, e4⟩
  have hjn := hk.jk
  have hkp := hk.kp
  have hp0 := hk.p0
  have hip : i + p ≤ j := by
    obtain ⟨m, hm, hj⟩ := hk.jm
    have : p ≤ m * p := Nat.le_mul_of_pos_left p hm
    omega
  by_cases hlt : j + n < l.length
  · have hlt' : (j : Int) + (n : Int) < (l.length : Int) := by omega
    obtain ⟨b1, o1, c1, hv1, hc1⟩ := (hb.ext e4).at (i := i + n) (by omega)
    obtain ⟨b2, o2, c2, hv2, hc2⟩ := (hb.ext e4).at hlt
    injection hv1 with hA1 _ hcc1
    subst hA1 hcc1
    injection hv2 with hA2 _ hcc2
    injection hA2 with hA2
    injection hA2 with hA2 hA3
    subst hA2 hA3
    have hin : (i : Int) + (n : Int) = ((i + n : Nat) : Int) := by omega
    have hjn2 : (j : Int) + (n : Int) = ((j + n : Nat) : Int) := by omega
    have hi' : i + n < l.length := by omega
    rw [hjn2] at hlt'
    generalize hx : l[i + n] = x at *
    generalize hy : l[j + n] = y at *
    have hfx : fnb l (i + n) = x := by rw [fnb_get hi', hx]
    have hfy : fnb l (j + n) = y := by rw [fnb_get hlt, hy]
    generalize hu : i + n = u at hin hc1 hi' hlt'
    generalize hz : j + n = z at hjn2 hc2 hlt'
    have hz1 : z < l.length := by omega
    have hu1 : u < l.length := by omega
    simp (disch := omega) only [SX, Nat.reduceAdd, DRAWQ, hjn2, hlt', hin, RD_5 hc1, RD_5 hc2]
    have oo' := oo.drew
    rw [LD_178 (oo'.cell (i := 0) rfl)]
    refine CALLV_of (first := #[]) (captured := #[.pointer (some ⟨cb, 0, none⟩)]) (suffix_less (w := w4.drew) oc.drew y x) ?_
    rintro v w5 ⟨rfl, rfl⟩
    have e5 : Ext w w4.drew := e4.trans (Ext.drew _)
    cases hless : ordB t y x with
    | true =>
      simp (disch := omega) only [SX, Nat.reduceAdd]
      have := hk.down (ord_strict t) hlt (by rw [hfx, hfy]; exact hless)
      refine ⟨⟨i, j + n + 1, 0, j + n + 1 - i, rfl, vi (by omega), rfl, vi (by omega), this, oc.drew, oo.drew, e5⟩, by simp only [vnat_int]; omega⟩
    | false =>
      simp (disch := omega) only [SX, Nat.reduceAdd]
      refine ⟨fun bv w6 => bv = .bool (decide (x = y ∧ n + 1 < p)) ∧ w6 = w4.drew, ?_, ?_⟩
      · by_cases hxy : x = y
        · subst hxy
          simp (disch := omega) only [SX, Nat.reduceAdd]
          refine ⟨?_, by trivial⟩
          congr 1
          simp
          omega
        · have hne : ¬ (x.toNat : Int) = (y.toNat : Int) := fun h => hxy (u8_ext (by omega))
          simp (disch := omega) only [SX, Nat.reduceAdd, hne]
          refine ⟨?_, by trivial⟩
          simp [hxy]
      · rintro bv w6 ⟨rfl, rfl⟩
        by_cases hxy : x = y
        · have hxy' : ((x.toNat : Nat) : Int) = ((y.toNat : Nat) : Int) := by rw [hxy]
          by_cases hnp : n + 1 < p
          · simp (disch := omega) only [SX, Nat.reduceAdd, hxy, hnp, and_self]
            refine ⟨⟨i, j, n + 1, p, rfl, rfl, vi (by omega), rfl, hk.more hlt (by rw [hfx, hfy, hxy]) hnp, oc.drew, oo.drew, e5⟩, by simp only [vnat_int]; omega⟩
          · simp (disch := omega) only [SX, Nat.reduceAdd, hxy, hnp, and_false]
            refine ⟨⟨i, j + p, 0, p, rfl, vi (by omega), rfl, rfl, hk.round hlt (by rw [hfx, hfy, hxy]) hnp, oc.drew, oo.drew, e5⟩, by simp only [vnat_int]; omega⟩
        · have hne : ¬ (x.toNat : Int) = (y.toNat : Int) := fun h => hxy (u8_ext (by omega))
          simp (disch := omega) only [SX, Nat.reduceAdd, hxy, hne, false_and]
          have hup : ordT t x y := by
            rcases (ord_strict t).tot x y with h | h | h
            · exact h
            · exact (hxy h).elim
            · unfold ordT at h; rw [hless] at h; cases h
          refine ⟨⟨j, j + 1, 0, 1, rfl, vi (by omega), rfl, rfl, hk.up (ord_strict t) hlt (by rw [hfx, hfy]; exact hup), oc.drew, oo.drew, e5⟩, by simp only [vnat_int]; omega⟩
  · have hlt' : ¬ (j : Int) + (n : Int) < (l.length : Int) := by omega
    simp (disch := omega) only [SX, Nat.reduceAdd, hlt']
    obtain ⟨h1, h2, h3, h4⟩ := hk.done (ord_strict t) hlt
    exact k _ _ ⟨⟨i, p, rfl, h1, hp0, h2, h3, h4⟩, e4⟩
end
end Go.Proofs.Ytopdjdkkhpkmiaa.Y
