import Derived.Test.YtgjfhmahiiokeaaGreatCrit
import Derived.Test.YtgjfhmahiiokeaaGreatStrs
import Derived.Test.YtgjfhmahiiokeaaGreatSlices
import Derived.Test.YtgjfhmahiiokeaaGreatFold
import Derived.Test.YtgjfhmahiiokeaaGreatFound
import Derived.Test.YtgjfhmahiiokeaaGreatRowT
set_option linter.unusedVariables false
set_option linter.unusedSimpArgs false
set_option linter.unusedVariables false
set_option linter.unusedSimpArgs false
set_option maxRecDepth 8000
namespace Go.Proofs.YtgjfhmahiiokeaaGreat.Y
open Go Go.Sx

/-! ### The greatest end of a text -/
def fnb (l : List UInt8) (i : Nat) : UInt8 := l.getD i 0
theorem fnb_get {l : List UInt8} {i : Nat} (h : i < l.length) : fnb l i = l[i] := by simp [fnb, List.getD, h]
def ordB (t : Bool) (a b : UInt8) : Bool := !decide ((a.toNat : Int) = (b.toNat : Int)) && (decide ((a.toNat : Int) < (b.toNat : Int)) != t)
def ordT (t : Bool) (a b : UInt8) : Prop := ordB t a b = true
theorem ordT_false {a b : UInt8} : ordT false a b ↔ a.toNat < b.toNat := by
  simp [ordT, ordB]; omega
theorem ordT_true {a b : UInt8} : ordT true a b ↔ b.toNat < a.toNat := by
  simp [ordT, ordB]; omega
theorem u8_ext {a b : UInt8} (h : a.toNat = b.toNat) : a = b := UInt8.toNat_inj.1 h
theorem ord_strict (t : Bool) : Strict (ordT t) := by
  cases t
  · refine ⟨fun x => ?_, fun x y => ?_, fun x y z => ?_, fun x y => ?_⟩
    · rw [ordT_false]; omega
    · rw [ordT_false, ordT_false]; omega
    · rw [ordT_false, ordT_false, ordT_false]; omega
    · rw [ordT_false, ordT_false]
      rcases Nat.lt_trichotomy x.toNat y.toNat with h | h | h
      · exact .inl h
      · exact .inr (.inl (u8_ext h))
      · exact .inr (.inr h)
  · refine ⟨fun x => ?_, fun x y => ?_, fun x y z => ?_, fun x y => ?_⟩
    · rw [ordT_true]; omega
    · rw [ordT_true, ordT_true]; omega
    · rw [ordT_true, ordT_true, ordT_true]; omega
    · rw [ordT_true, ordT_true]
      rcases Nat.lt_trichotomy x.toNat y.toNat with h | h | h
      · exact .inr (.inr h)
      · exact .inr (.inl (u8_ext h))
      · exact .inl h
theorem ord_op (t : Bool) (x y : UInt8) : ordT (!t) x y ↔ ordT t y x := by
  cases t
  · simp only [Bool.not_false]; rw [ordT_true, ordT_false]
  · simp only [Bool.not_true]; rw [ordT_true, ordT_false]
theorem vi {x : Int} {n : Nat} (h : x = n) : Value.int .i64 x = .int .i64 (n : Nat) := by rw [h]

/-- What is found: where the greatest end begins, and its least period. -/
structure MaxOK (l : List UInt8) (t : Bool) (i p : Nat) : Prop where
  max : MaxSuf (fnb l) l.length (ordT t) i
  p0 : 0 < p
  per : ∀ x, i + p ≤ x → x < l.length → fnb l x = fnb l (x - p)
  least : ∀ d, 0 < d → d < p → ¬ ∀ x, i + d ≤ x → x < l.length → fnb l x = fnb l (x - d)
  inn : i + p ≤ l.length

section
variable {w : World}

theorem suffix_less {cb : Nat} {t : Bool} (h : Own w cb [.bool t] 4) (a b : UInt8) : RET Tryz.prog 105 [.int .u8 a.toNat, .int .u8 b.toNat, .pointer (some ⟨cb, 0, none⟩)] w fun v w' => v = .bool (ordB t a b) ∧ w' = w := by
  refine RET_by fun R k => ?_
  apply by_suffix_by_1
  unfold sh_suffix_by_1
  by_cases he : (a.toNat : Int) = (b.toNat : Int)
  · simp (disch := omega) only [SX, Nat.reduceAdd, he]
    refine k _ _ ⟨?_, rfl⟩
    simp [ordB, he]
  · simp (disch := omega) only [SX, Nat.reduceAdd, he, LD_4 (h.cell (i := 0) rfl), NE_bool]
    refine k _ _ ⟨?_, rfl⟩
    simp [ordB, he]

theorem suffix_by (t : Bool) : RET Tryz.prog 102 [.bool t] w fun v w' => ∃ cb, v = .agg #[.func (.func 105) #[] #[.pointer (some ⟨cb, 0, none⟩)]] ∧ Own w' cb [.bool t] 4 ∧ Ext w w' := by
  refine RET_by fun R k => ?_
  apply by_suffix_by
  unfold sh_suffix_by
  refine BOX1 rfl fun w1 o1 e1 z1 => ?_
  refine AL_182 fun w2 o2 e2 z2 => ?_
  simp (disch := omega) only [SX, Nat.reduceAdd]
  refine STOREA SZ_182 (vs := [.func (.func 105) #[] #[.pointer (some ⟨w.heap.size, 0, none⟩)]]) rfl o2 (by simp) (by simp [Value.oneCell']) fun w3 o3 c3 z3 => ?_
  exact LOADRES_A (by kernel_rfl) SZ_182 (cellsAt_whole o3 rfl) (k _ _ ⟨_, rfl, (o1.ext e2).chg c3 (by omega), (e1.trans e2).ext_of c3 fun i hi => by omega⟩)

theorem suffix_Max_nil {bv : Value} (hb : SlB w bv []) (t : Bool) : RET Tryz.prog 93 [bv, .bool t] w fun v w' => v = .tuple #[.int .i64 0, .int .i64 0] ∧ Ext w w' := by
  obtain ⟨A, c, rfl⟩ := hb.shape
  refine RET_by fun R k => ?_
  apply by_suffix_Max
  unfold sh_suffix_Max
  simp (disch := omega) only [SX, Nat.reduceAdd, List.length_nil, Int.natCast_zero]
  exact k _ _ ⟨rfl, Ext.refl w⟩

theorem suffix_Max {bv : Value} {l : List UInt8} (hb : SlB w bv l) (hl : l ≠ []) (hs : l.length ≤ 2 ^ 40) (t : Bool) : RET Tryz.prog 93 [bv, .bool t] w fun v w' => (∃ i p : Nat, v = .tuple #[.int .i64 i, .int .i64 p] ∧ MaxOK l t i p) ∧ Ext w w' := by
  have hpos : 0 < l.length := List.length_pos_iff.2 hl
  obtain ⟨A, c, rfl⟩ := hb.shape
  refine RET_by fun R k => ?_
  apply by_suffix_Max
  unfold sh_suffix_Max
  simp (disch := omega) only [SX, Nat.reduceAdd, show ¬ ((l.length : Int) = 0) by omega]
  refine CALL_of (suffix_by t) ?_
  rintro v w1 ⟨cb, rfl, o1, e1⟩
  refine AL_182 fun w2 o2 e2 z2 => ?_
  refine STOREA SZ_182 (vs := [.func (.func 105) #[] #[.pointer (some ⟨cb, 0, none⟩)]]) rfl o2 (by simp) (by simp [Value.oneCell']) fun w3 o3 c3 z3 => ?_
  have o1' := (o1.ext e2).chg c3 (by have := o1.lt; omega)
  have e03 : Ext w w3 := (e1.trans e2).ext_of c3 fun i hi => by have := e1.size; omega
  have hob : w1.heap.size = w1.heap.size := rfl
  generalize w1.heap.size = ob at *
  have o3' : Own w3 ob [.func (.func 105) #[] #[.pointer (some ⟨cb, 0, none⟩)]] 182 := o3
  try simp (disch := omega) only [SX, Nat.reduceAdd]
  refine ⟨fun av nv kv pv w4 => ∃ i j n p : Nat, av = .int .i64 i ∧ nv = .int .i64 j ∧ kv = .int .i64 n ∧ pv = .int .i64 p ∧ Seek (fnb l) l.length (ordT t) i j n p ∧ Own w4 cb [.bool t] 4 ∧ Own w4 ob [.func (.func 105) #[] #[.pointer (some ⟨cb, 0, none⟩)]] 182 ∧ Ext w w4,
    fun av nv kv _ _ => 2 * l.length + 1 - (vnat av + vnat nv + vnat kv), ⟨0, 1, 0, 1, rfl, rfl, rfl, rfl, Seek.start hpos, o1', o3', e03⟩, ?_⟩
  rintro av nv kv pv w4 ⟨i, j, n, p, rfl, rfl, rfl, rfl, hk, oc, oo, e4⟩
  have hjn := hk.jk
  have hkp := hk.kp
  have hp0 := hk.p0
  have hip : i + p ≤ j := by
    obtain ⟨m, hm, hj⟩ := hk.jm
    have : p ≤ m * p := Nat.le_mul_of_pos_left p hm
    omega
  by_cases hlt : j + n < l.length
  · have hlt' : (j : Int) + (n : Int) < (l.length : Int) := by omega
    obtain ⟨b1, o1, c1, hv1, hc1⟩ := (hb.ext e4).at (i := i + n) (by omega)
    obtain ⟨b2, o2, c2, hv2, hc2⟩ := (hb.ext e4).at hlt
    injection hv1 with hA1 _ hcc1
    subst hA1 hcc1
    injection hv2 with hA2 _ hcc2
    injection hA2 with hA2
    injection hA2 with hA2 hA3
    subst hA2 hA3
    have hin : (i : Int) + (n : Int) = ((i + n : Nat) : Int) := by omega
    have hjn2 : (j : Int) + (n : Int) = ((j + n : Nat) : Int) := by omega
    have hi' : i + n < l.length := by omega
    rw [hjn2] at hlt'
    generalize hx : l[i + n] = x at *
    generalize hy : l[j + n] = y at *
    have hfx : fnb l (i + n) = x := by rw [fnb_get hi', hx]
    have hfy : fnb l (j + n) = y := by rw [fnb_get hlt, hy]
    generalize hu : i + n = u at hin hc1 hi' hlt'
    generalize hz : j + n = z at hjn2 hc2 hlt'
    have hz1 : z < l.length := by omega
    have hu1 : u < l.length := by omega
    simp (disch := omega) only [SX, Nat.reduceAdd, DRAWQ, hjn2, hlt', hin, RD_5 hc1, RD_5 hc2]
    have oo' := oo.drew
    rw [LD_180 (oo'.cell (i := 0) rfl)]
    refine CALLV_of (first := #[]) (captured := #[.pointer (some ⟨cb, 0, none⟩)]) (suffix_less (w := w4.drew) oc.drew y x) ?_
    rintro v w5 ⟨rfl, rfl⟩
    have e5 : Ext w w4.drew := e4.trans (Ext.drew _)
    cases hless : ordB t y x with
    | true =>
      simp (disch := omega) only [SX, Nat.reduceAdd]
      have := hk.down (ord_strict t) hlt (by rw [hfx, hfy]; exact hless)
      refine ⟨⟨i, j + n + 1, 0, j + n + 1 - i, rfl, vi (by omega), rfl, vi (by omega), this, oc.drew, oo.drew, e5⟩, by simp only [vnat_int]; omega⟩
    | false =>
      simp (disch := omega) only [SX, Nat.reduceAdd]
      refine ⟨fun bv w6 => bv = .bool (decide (x = y ∧ n + 1 < p)) ∧ w6 = w4.drew, ?_, ?_⟩
      · by_cases hxy : x = y
        · subst hxy
          simp (disch := omega) only [SX, Nat.reduceAdd]
          refine ⟨?_, by trivial⟩
          congr 1
          simp
          omega
        · have hne : ¬ (x.toNat : Int) = (y.toNat : Int) := fun h => hxy (u8_ext (by omega))
          simp (disch := omega) only [SX, Nat.reduceAdd, hne]
          refine ⟨?_, by trivial⟩
          simp [hxy]
      · rintro bv w6 ⟨rfl, rfl⟩
        by_cases hxy : x = y
        · have hxy' : ((x.toNat : Nat) : Int) = ((y.toNat : Nat) : Int) := by rw [hxy]
          by_cases hnp : n + 1 < p
          · simp (disch := omega) only [SX, Nat.reduceAdd, hxy, hnp, and_self]
            refine ⟨⟨i, j, n + 1, p, rfl, rfl, vi (by omega), rfl, hk.more hlt (by rw [hfx, hfy, hxy]) hnp, oc.drew, oo.drew, e5⟩, by simp only [vnat_int]; omega⟩
          · simp (disch := omega) only [SX, Nat.reduceAdd, hxy, hnp, and_false]
            refine ⟨⟨i, j + p, 0, p, rfl, vi (by omega), rfl, rfl, hk.round hlt (by rw [hfx, hfy, hxy]) hnp, oc.drew, oo.drew, e5⟩, by simp only [vnat_int]; omega⟩
        · have hne : ¬ (x.toNat : Int) = (y.toNat : Int) := fun h => hxy (u8_ext (by omega))
          simp (disch := omega) only [SX, Nat.reduceAdd, hxy, hne, false_and]
          have hup : ordT t x y := by
            rcases (ord_strict t).tot x y with h | h | h
            · exact h
            · exact (hxy h).elim
            · unfold ordT at h; rw [hless] at h; cases h
          refine ⟨⟨j, j + 1, 0, 1, rfl, vi (by omega), rfl, rfl, hk.up (ord_strict t) hlt (by rw [hfx, hfy]; exact hup), oc.drew, oo.drew, e5⟩, by simp only [vnat_int]; omega⟩
  · have hlt' : ¬ (j : Int) + (n : Int) < (l.length : Int) := by omega
    simp (disch := omega) only [SX, Nat.reduceAdd, hlt']
    obtain ⟨h1, h2, h3, h4⟩ := hk.done (ord_strict t) hlt
    exact k _ _ ⟨⟨i, p, rfl, h1, hp0, h2, h3, h4⟩, e4⟩
end
end Go.Proofs.YtgjfhmahiiokeaaGreat.Y
set_option linter.unusedVariables false
set_option linter.unusedSimpArgs false
set_option maxRecDepth 8000
namespace Go.Proofs.YtgjfhmahiiokeaaGreat.Y
open Go Go.Sx

/-! ### Where a text is cut for a search -/
structure FactorOK (l : List UInt8) (cut per : Nat) (small : Bool) : Prop where
  inn : cut < l.length
  p0 : 0 < per
  pn : per ≤ l.length + 1
  rep : ∀ q, 0 < q → REPm (fnb l) l.length cut q → cut < q ∧ PERm (fnb l) l.length q
  least : ∀ q, 0 < q → PERm (fnb l) l.length q → per ≤ q
  small : small = true → PERm (fnb l) l.length per ∧ per ≤ l.length

theorem factor_ok {l : List UInt8} {t : Bool} {c p c' p' : Nat} (h : MaxOK l t c p) (h' : MaxOK l (!t) c' p') (hc : c' ≤ c) (small : Bool) (hs : small = true ↔ PERm (fnb l) l.length p) : FactorOK l c (if small then p else max c (l.length - c) + 1) small := by
  have hcr := fun {q : Nat} (hq : 0 < q) hr => crit (ord_strict t) (ord_strict (!t)) (ord_op t) h.max h'.max hc (q := q) hq hr
  have hin := h.inn
  have hlt := h.max.inn
  have h0 := h.p0
  refine ⟨hlt, by split <;> omega, by split <;> omega, fun q hq hr => hcr hq hr, fun q hq hp => ?_, fun hsm => ?_⟩
  · have hcq := (hcr hq (fun j _ _ h1 h2 => hp j h2 h1)).1
    split
    · rcases Nat.lt_or_ge q p with hl | hl
      · exact (h.least q hq hl fun x hx hn => hp x (by omega) hn).elim
      · exact hl
    · rename_i hsm
      have hno : ¬ PERm (fnb l) l.length p := fun hx => hsm (hs.2 hx)
      have := crit_long (ord_strict t) (ord_strict (!t)) (ord_op t) h.max h'.max hc h0 h.per h.least hno hq hp
      omega
  · rw [if_pos hsm]
    exact ⟨hs.1 hsm, by omega⟩

/-- A text stands at a place. -/
def occF (l line : List UInt8) (a : Nat) : Prop := a + l.length ≤ line.length ∧ ∀ j, j < l.length → fnb l j = fnb line (a + j)
theorem occF_iff {l line : List UInt8} {a : Nat} (hl : l ≠ []) : occF l line a ↔ l <+: line.drop a := by
  have h0 : 0 < l.length := List.length_pos_iff.2 hl
  constructor
  · rintro ⟨h1, h2⟩
    rw [List.prefix_iff_eq_take]
    apply List.ext_getElem
    · rw [List.length_take, List.length_drop]; omega
    · intro j hj hj'
      have := h2 j hj
      rw [fnb_get hj, fnb_get (by omega)] at this
      rw [this]
      simp
  · intro h
    have hle := h.length_le
    rw [List.length_drop] at hle
    refine ⟨by omega, fun j hj => ?_⟩
    rw [fnb_get hj, fnb_get (by omega)]
    have := List.prefix_iff_eq_take.1 h
    have h3 : l[j]? = ((line.drop a).take l.length)[j]? := by rw [← this]
    rw [List.getElem?_take, if_pos hj, List.getElem?_drop, List.getElem?_eq_getElem hj, List.getElem?_eq_getElem (by omega)] at h3
    exact Option.some.inj h3

/-- No shorter move: the right part fits up to i. -/
theorem shift_right {l line : List UInt8} {cut per : Nat} {small : Bool} (h : FactorOK l cut per small) {a i s : Nat} (hi : i < l.length) (hm : ∀ j, cut ≤ j → j < i → fnb l j = fnb line (a + j)) (hne : fnb l i ≠ fnb line (a + i)) (h0 : 0 < s) (hs : s ≤ i - cut) : ¬ occF l line (a + s) := by
  rintro ⟨h1, h2⟩
  have key : ∀ j, cut ≤ j → j < i → s ≤ j → fnb l j = fnb l (j - s) := fun j k1 k2 k3 => by
    rw [hm j k1 k2, h2 (j - s) (by omega)]
    congr 1
    omega
  obtain ⟨_, hp⟩ := h.rep s h0 fun j k1 k2 k3 k4 => key j k1 (by omega) k4
  apply hne
  rw [hp i (by omega) hi, h2 (i - s) (by omega)]
  congr 1
  omega
/-- No shorter move: the whole right part fits. -/
theorem shift_whole {l line : List UInt8} {cut per : Nat} {small : Bool} (h : FactorOK l cut per small) {a s : Nat} (hm : ∀ j, cut ≤ j → j < l.length → fnb l j = fnb line (a + j)) (h0 : 0 < s) (hs : s < per) : ¬ occF l line (a + s) := by
  rintro ⟨h1, h2⟩
  have key : ∀ j, cut ≤ j → j < l.length → s ≤ j → fnb l j = fnb l (j - s) := fun j k1 k2 k3 => by
    rw [hm j k1 k2, h2 (j - s) (by omega)]
    congr 1
    omega
  obtain ⟨_, hp⟩ := h.rep s h0 fun j k1 k2 k3 k4 => key j k1 k3 k4
  have := h.least s h0 hp
  omega

section
variable {w : World}

theorem critical_cut {bv : Value} {l : List UInt8} (hb : SlB w bv l) (hl : l ≠ []) (hs : l.length ≤ 2 ^ 40) : RET Tryz.prog 76 [bv] w fun v w' => (∃ (t : Bool) (c p c' p' : Nat), v = .agg #[.int .i64 c, .int .i64 p, .bool false] ∧ MaxOK l t c p ∧ MaxOK l (!t) c' p' ∧ c' ≤ c) ∧ Ext w w' := by
  refine RET_by fun R k => ?_
  apply by_critical_cut
  unfold sh_critical_cut
  refine AL_109 fun w1 o1 e1 z1 => ?_
  refine CALL_of (suffix_Max (hb.ext e1) hl hs false) ?_
  rintro v w2 ⟨⟨c, p, rfl, h1⟩, e2⟩
  simp (disch := omega) only [SX, Nat.reduceAdd]
  refine CALL_of (suffix_Max (hb.ext (e1.trans e2)) hl hs true) ?_
  rintro v w3 ⟨⟨c', p', rfl, h2⟩, e3⟩
  simp (disch := omega) only [SX, Nat.reduceAdd]
  have o3 := (o1.ext e2).ext e3
  have e03 := e1.trans (e2.trans e3)
  by_cases hgt : c < c'
  · have hgt' : (c : Int) < (c' : Int) := by omega
    simp (disch := omega) only [SX, Nat.reduceAdd, hgt']
    refine STOREA SZ_109 (vs := [.int .i64 c', .int .i64 p', .bool false]) rfl o3 (by simp) (by simp [Value.oneCell']) fun w4 o4 c4 z4 => ?_
    exact LOADRES_A (by kernel_rfl) SZ_109 (cellsAt_whole o4 rfl) (k _ _ ⟨⟨true, c', p', c, p, rfl, h2, h1, by omega⟩, e03.ext_of c4 fun i hi => by omega⟩)
  · have hgt' : ¬ (c : Int) < (c' : Int) := by omega
    simp (disch := omega) only [SX, Nat.reduceAdd, hgt']
    refine STOREA SZ_109 (vs := [.int .i64 c, .int .i64 p, .bool false]) rfl o3 (by simp) (by simp [Value.oneCell']) fun w4 o4 c4 z4 => ?_
    exact LOADRES_A (by kernel_rfl) SZ_109 (cellsAt_whole o4 rfl) (k _ _ ⟨⟨false, c, p, c', p', rfl, h1, h2, by omega⟩, e03.ext_of c4 fun i hi => by omega⟩)

theorem critical_alike {bv : Value} {l : List UInt8} (hb : SlB w bv l) {a b n : Nat} (ha : a + n ≤ l.length) (hbn : b + n ≤ l.length) : RET Tryz.prog 77 [bv, .int .i64 a, .int .i64 b, .int .i64 n] w fun v w' => v = .bool (decide ((l.drop a).take n = (l.drop b).take n)) ∧ Ext w w' := by
  have hll := hb.len
  obtain ⟨A, c, rfl⟩ := hb.shape
  have hlc : l.length ≤ c := by obtain ⟨_, _, he, _, h1, _⟩ := hb; injection he with _ _ e3; omega
  refine RET_by fun R k => ?_
  apply by_critical_text_alike
  unfold sh_critical_text_alike
  have h1 : (a : Int) + (n : Int) = ((a + n : Nat) : Int) := by omega
  have h2 : (b : Int) + (n : Int) = ((b + n : Nat) : Int) := by omega
  simp (disch := omega) only [DRAWQ, SX, Nat.reduceAdd, h1, h2]
  have s1 := slB_sub hb ha
  have s2 := slB_sub hb hbn
  rw [show a + n - a = n by omega, show b + n - b = n by omega]
  refine (READ_eq (run_STR Tryz.underlying150 Tryz.underlying5 Tryz.underlying9 (s1.ext (Ext.drew _))) fun w' hw => run_STR Tryz.underlying150 Tryz.underlying5 Tryz.underlying9 (s1.same hw)).mpr ?_
  try simp (disch := omega) only [SX, Nat.reduceAdd, h1, h2]
  try rw [show b + n - b = n by omega]
  refine (READ_eq (run_STR Tryz.underlying150 Tryz.underlying5 Tryz.underlying9 (s2.ext (Ext.drew _))) fun w' hw => run_STR Tryz.underlying150 Tryz.underlying5 Tryz.underlying9 (s2.same hw)).mpr ?_
  refine (STR_eq (a := (l.drop a).take n) (b := (l.drop b).take n)).mpr ?_
  exact k _ _ ⟨rfl, Ext.drew w⟩

theorem per_take {l : List UInt8} {c p : Nat} (hc : c + p ≤ l.length) (hp : ∀ x, c + p ≤ x → x < l.length → fnb l x = fnb l (x - p)) : (l.drop 0).take c = (l.drop p).take c ↔ PERm (fnb l) l.length p := by
  constructor
  · intro h j hj hn
    rcases Nat.lt_or_ge j (c + p) with hl | hl
    · have := congrArg (fun x => x[j - p]?) h
      simp only [List.getElem?_take, List.getElem?_drop] at this
      rw [if_pos (by omega), if_pos (by omega), List.getElem?_eq_getElem (by omega), List.getElem?_eq_getElem (by omega)] at this
      rw [fnb_get hn, fnb_get (by omega)]
      have h2 := Option.some.inj this
      simp only [show 0 + (j - p) = j - p by omega, show p + (j - p) = j by omega] at h2
      exact h2.symm
    · exact hp j hl hn
  · intro h
    apply List.ext_getElem?
    intro j
    simp only [List.getElem?_take, List.getElem?_drop]
    split
    · rename_i hj
      rw [List.getElem?_eq_getElem (by omega), List.getElem?_eq_getElem (by omega)]
      have := h (p + j) (by omega) (by omega)
      rw [fnb_get (by omega), fnb_get (by omega)] at this
      congr 1
      rw [this]
      congr 1
      omega
    · rfl

theorem critical_Factor {bv : Value} {l : List UInt8} (hb : SlB w bv l) (hl : l ≠ []) (hs : l.length ≤ 2 ^ 40) : RET Tryz.prog 48 [bv] w fun v w' => (∃ (c per : Nat) (sm : Bool), v = .agg #[.int .i64 c, .int .i64 per, .bool sm] ∧ FactorOK l c per sm) ∧ Ext w w' := by
  refine RET_by fun R k => ?_
  apply by_critical_Factor
  unfold sh_critical_Factor
  refine AL_109 fun w1 o1 e1 z1 => ?_
  refine CALL_of (critical_cut (hb.ext e1) hl hs) ?_
  rintro v w2 ⟨⟨t, c, p, c', p', rfl, h1, h2, hc⟩, e2⟩
  have hin := h1.inn
  have hp0 := h1.p0
  refine AL_109 fun w3 o3 e3 z3 => ?_
  refine STOREA SZ_109 (vs := [.int .i64 c, .int .i64 p, .bool false]) rfl o3 (by simp) (by simp [Value.oneCell']) fun w4 o4 c4 z4 => ?_
  have o4 : Own w4 w2.heap.size [.int .i64 c, .int .i64 p, .bool false] 109 := o4
  have z2 := e2.size
  have o14 : Own w4 w.heap.size [.int .i64 0, .int .i64 0, .bool false] 109 := ((o1.ext e2).ext e3).chg c4 (by have := o1.lt; omega)
  have e04 : Ext w w4 := (e1.trans (e2.trans e3)).ext_of c4 fun i hi => by have := e1.size; omega
  have hlt1 := o1.lt
  simp (disch := omega) only [LA_109 (cellsAt_whole o4 rfl), SX, Nat.reduceAdd]
  have hne : ¬ ((p : Int) = 0) := by omega
  obtain ⟨A, cc, rfl⟩ := hb.shape
  have hll := hb.len
  have hz : (decide ((c : Int) = 0) && decide ((p : Int) = 0)) = false := by simp; omega
  simp (disch := omega) only [hz, SX, Nat.reduceAdd, LD_3 (o4.cell (i := 1) rfl), LD_3 (o4.cell (i := 0) rfl)]
  refine CALLV_of (first := #[.slice A l.length cc]) (captured := #[]) (critical_alike (hb.ext e04) (a := 0) (b := p) (n := c) (by omega) (by omega)) ?_
  rintro v w5 ⟨rfl, e5⟩
  have hper := per_take (l := l) (c := c) (p := p) hin h1.per
  refine STORE SZ_4 (o4.ext e5) (by simp) rfl rfl fun w6 o6 c6 z6 => ?_
  have o6 : Own w6 w2.heap.size [.int .i64 c, .int .i64 p, .bool (decide ((l.drop 0).take c = (l.drop p).take c))] 109 := o6
  have o16 := (o14.ext e5).chg c6 (by omega)
  have e06 : Ext w w6 := (e04.trans e5).ext_of c6 fun i hi => by have := e1.size; omega
  generalize hsm : decide ((l.drop 0).take c = (l.drop p).take c) = sm at *
  have hf := factor_ok h1 h2 hc sm (by rw [← hper, ← hsm, decide_eq_true_iff])
  cases sm with
  | true =>
    simp (disch := omega) only [SX, Nat.reduceAdd, LD_4 (o6.cell (i := 2) rfl), LA_109 (cellsAt_whole o6 rfl)]
    refine STOREA SZ_109 (vs := [.int .i64 c, .int .i64 p, .bool true]) rfl o16 (by simp) (by simp [Value.oneCell']) fun w7 o7 c7 z7 => ?_
    exact LOADRES_A (by kernel_rfl) SZ_109 (cellsAt_whole o7 rfl) (k _ _ ⟨⟨c, p, true, rfl, hf⟩, e06.ext_of c7 fun i hi => by omega⟩)
  | false =>
    simp (disch := omega) only [SX, Nat.reduceAdd, LD_4 (o6.cell (i := 2) rfl), LD_3 (o6.cell (i := 0) rfl)]
    refine STORE SZ_3 o6 (by simp) rfl rfl fun w7 o7 c7 z7 => ?_
    have hmx : max (c : Int) ((l.length : Int) - (c : Int)) + 1 = ((max c (l.length - c) + 1 : Nat) : Int) := by omega
    rw [hmx] at o7
    have o7 : Own w7 w2.heap.size [.int .i64 c, .int .i64 ((max c (l.length - c) + 1 : Nat) : Int), .bool false] 109 := o7
    try simp (disch := omega) only [SX, Nat.reduceAdd]
    rw [LA_109 (cellsAt_whole o7 rfl)]
    refine STOREA SZ_109 (vs := [.int .i64 c, .int .i64 ((max c (l.length - c) + 1 : Nat) : Int), .bool false]) rfl (o16.chg c7 (by omega)) (by simp) (by simp [Value.oneCell']) fun w8 o8 c8 z8 => ?_
    exact LOADRES_A (by kernel_rfl) SZ_109 (cellsAt_whole o8 rfl) (k _ _ ⟨⟨c, _, false, rfl, hf⟩, (e06.ext_of c7 fun i hi => by have := e1.size; omega).ext_of c8 fun i hi => by omega⟩)
end
end Go.Proofs.YtgjfhmahiiokeaaGreat.Y
set_option linter.unusedVariables false
set_option linter.unusedSimpArgs false
set_option maxRecDepth 8000
namespace Go.Proofs.YtgjfhmahiiokeaaGreat.Y
open Go Go.Sx

/-! ### A search for one text -/
structure IsTwo (w : World) (lo hi b : Nat) (l : List UInt8) (cut per : Nat) (small : Bool) : Prop where
  ex : ∃ A c, Own w b [.slice A l.length c, .int .i64 cut, .int .i64 per, .bool small, .func (.func (if small then 50 else 49)) #[] #[]] 114 ∧ SlB w (.slice A l.length c) l ∧ (lo ≤ b ∧ b < hi) ∧ ∀ k, (Value.slice A l.length c).ownBlock = some k → lo ≤ k ∧ k < hi
  ok : FactorOK l cut per small
  ne : l ≠ []
theorem IsTwo.chg {S : Nat → Prop} {w w' : World} {lo hi b : Nat} {l : List UInt8} {cut per : Nat} {small : Bool} (h : IsTwo w lo hi b l cut per small) (hc : Chg S w w') (hs : ∀ i, S i → i < lo ∨ hi ≤ i) : IsTwo w' lo hi b l cut per small := by
  obtain ⟨⟨A, c, h1, h2, h3, h4⟩, h5, h6⟩ := h
  exact ⟨⟨A, c, h1.chg hc (fun hS => by have := hs _ hS; omega), h2.chg hc (fun k hk hS => by have := hs _ hS; have := h4 k hk; omega), h3, h4⟩, h5, h6⟩
theorem IsTwo.ext {w w' : World} {lo hi b : Nat} {l : List UInt8} {cut per : Nat} {small : Bool} (h : IsTwo w lo hi b l cut per small) (hc : Ext w w') : IsTwo w' lo hi b l cut per small := h.chg hc fun _ x => x.elim

section
variable {w : World} {lo hi b : Nat} {l : List UInt8} {cut per : Nat} {small : Bool}

theorem twoway_right {lv : Value} {line : List UInt8} (h : IsTwo w lo hi b l cut per small) (hlv : SlB w lv line) {a : Nat} (ha : a + l.length ≤ line.length) {fr : Nat} (hf : fr ≤ l.length) :
    RET Tryz.prog 78 [.pointer (some ⟨b, 0, none⟩), lv, .int .i64 a, .int .i64 fr] w fun v w' => (∃ i : Nat, v = .int .i64 i ∧ fr ≤ i ∧ i ≤ l.length ∧ (∀ j, fr ≤ j → j < i → fnb l j = fnb line (a + j)) ∧ (i < l.length → fnb l i ≠ fnb line (a + i))) ∧ Ext w w' := by
  have hll := hlv.len
  obtain ⟨Al, cl, rfl⟩ := hlv.shape
  refine RET_by fun R k => ?_
  apply by_twoway_Two_right
  unfold sh_twoway_Two_right
  refine ⟨fun iv w1 => ∃ i : Nat, iv = .int .i64 i ∧ fr ≤ i ∧ i ≤ l.length ∧ (∀ j, fr ≤ j → j < i → fnb l j = fnb line (a + j)) ∧ Ext w w1, fun iv _ => l.length - vnat iv, ⟨fr, rfl, Nat.le_refl _, hf, fun j h1 h2 => by omega, Ext.refl w⟩, ?_⟩
  rintro iv w1 ⟨i, rfl, h1, h2, h3, e1⟩
  obtain ⟨A, c, o1, s1, _, _⟩ := (h.ext e1).ex
  have hs := s1.len
  have e2 : Ext w w1.drew := e1.trans (Ext.drew _)
  by_cases hlt : i < l.length
  · have hlt' : (i : Int) < (l.length : Int) := by omega
    obtain ⟨b1, p1, c1, hv, hc1⟩ := s1.at hlt
    injection hv with hA _ hcc
    subst hA hcc
    obtain ⟨b2, p2, c2, hv2, hc2⟩ := (hlv.ext e1).at (i := a + i) (by omega)
    injection hv2 with hA2 _ hcc2
    subst hA2 hcc2
    have hai : (a : Int) + (i : Int) = ((a + i : Nat) : Int) := by omega
    have hfi := fnb_get hlt
    have hfa := fnb_get (l := line) (i := a + i) (by omega)
    have hb2 : a + i < line.length := by omega
    generalize l[i] = x at *
    generalize line[a + i] = y at *
    generalize hz : a + i = z at *
    simp (disch := omega) only [DRAWQ, SX, Nat.reduceAdd, RD_23 (o1.cell (i := 0) rfl), hlt', RD_5 hc1, hai, RD_5 hc2]
    by_cases hxy : x = y
    · subst hxy
      simp (disch := omega) only [SX, Nat.reduceAdd]
      refine ⟨⟨i + 1, by simp, by omega, by omega, fun j k1 k2 => ?_, e2⟩, by simp only [vnat_int]; omega⟩
      rcases Nat.lt_or_ge j i with hj | hj
      · exact h3 j k1 hj
      · obtain rfl : j = i := by omega
        rw [hz, hfi, hfa]
    · have hne : ¬ ((x.toNat : Nat) : Int) = ((y.toNat : Nat) : Int) := fun hh => hxy (u8_ext (by omega))
      simp (disch := omega) only [SX, Nat.reduceAdd, hne]
      exact k _ _ ⟨⟨i, rfl, h1, h2, h3, fun _ => by rw [hz, hfi, hfa]; exact hxy⟩, e2⟩
  · have hlt' : ¬ (i : Int) < (l.length : Int) := by omega
    simp (disch := omega) only [DRAWQ, SX, Nat.reduceAdd, RD_23 (o1.cell (i := 0) rfl), hlt']
    exact k _ _ ⟨⟨i, rfl, h1, h2, h3, fun hx => (hlt hx).elim⟩, e2⟩

theorem twoway_left {lv : Value} {line : List UInt8} (h : IsTwo w lo hi b l cut per small) (hlv : SlB w lv line) {a : Nat} (ha : a + l.length ≤ line.length) (dn : Nat) :
    RET Tryz.prog 79 [.pointer (some ⟨b, 0, none⟩), lv, .int .i64 a, .int .i64 dn] w fun v w' => (∃ r : Bool, v = .bool r ∧ (r = true ↔ ∀ j, dn ≤ j → j < cut → fnb l j = fnb line (a + j))) ∧ Ext w w' := by
  have hll := hlv.len
  have hcut := h.ok.inn
  obtain ⟨Al, cl, rfl⟩ := hlv.shape
  obtain ⟨A0, c0, o0, s0, _, _⟩ := h.ex
  have hs := s0.len
  refine RET_by fun R k => ?_
  apply by_twoway_Two_left
  unfold sh_twoway_Two_left
  simp (disch := omega) only [SX, Nat.reduceAdd, Nat.zero_add, LD_3 (o0.cell (i := 1) rfl)]
  refine ⟨fun iv w1 => ∃ i : Nat, iv = .int .i64 ((i : Int) - 1) ∧ i ≤ cut ∧ (∀ j, i ≤ j → j < cut → fnb l j = fnb line (a + j)) ∧ Ext w w1, fun iv _ => match iv with | .int _ x => (x + 1).toNat | _ => 0, ⟨cut, rfl, Nat.le_refl _, fun j h1 h2 => by omega, Ext.refl w⟩, ?_⟩
  rintro iv w1 ⟨i, rfl, h2, h3, e1⟩
  obtain ⟨A, c, o1, s1, _, _⟩ := (h.ext e1).ex
  have e2 : Ext w w1.drew := e1.trans (Ext.drew _)
  by_cases hlt : dn + 1 ≤ i
  · have hlt' : (dn : Int) ≤ (i : Int) - 1 := by omega
    obtain ⟨u, rfl⟩ : ∃ u, i = u + 1 := ⟨i - 1, by omega⟩
    have hu : (((u + 1 : Nat) : Int)) - 1 = (u : Int) := by omega
    rw [hu] at hlt' ⊢
    obtain ⟨b1, p1, c1, hv, hc1⟩ := s1.at (i := u) (by omega)
    injection hv with hA _ hcc
    subst hA hcc
    obtain ⟨b2, p2, c2, hv2, hc2⟩ := (hlv.ext e1).at (i := a + u) (by omega)
    injection hv2 with hA2 _ hcc2
    subst hA2 hcc2
    have hai : (a : Int) + (u : Int) = ((a + u : Nat) : Int) := by omega
    have hfi := fnb_get (l := l) (i := u) (by omega)
    have hfa := fnb_get (l := line) (i := a + u) (by omega)
    have hb2 : a + u < line.length := by omega
    have hb1 : u < l.length := by omega
    generalize l[u] = x at *
    generalize line[a + u] = y at *
    generalize hz : a + u = z at *
    simp (disch := omega) only [DRAWQ, SX, Nat.reduceAdd, RD_23 (o1.cell (i := 0) rfl), hlt', RD_5 hc1, hai, RD_5 hc2]
    by_cases hxy : x = y
    · subst hxy
      simp (disch := omega) only [SX, Nat.reduceAdd]
      refine ⟨⟨u, rfl, by omega, fun j k1 k2 => ?_, e2⟩, by show ((u : Int) - 1 + 1).toNat < ((u : Int) + 1).toNat; omega⟩
      rcases Nat.lt_or_ge u j with hj | hj
      · exact h3 j hj k2
      · obtain rfl : j = u := by omega
        rw [hz, hfi, hfa]
    · have hne : ¬ ((x.toNat : Nat) : Int) = ((y.toNat : Nat) : Int) := fun hh => hxy (u8_ext (by omega))
      simp (disch := omega) only [SX, Nat.reduceAdd, hne]
      refine k _ _ ⟨⟨false, rfl, ?_⟩, e2⟩
      simp only [Bool.false_eq_true, false_iff]
      intro hall
      have := hall u (by omega) (by omega)
      rw [hz, hfi, hfa] at this
      exact hxy this
  · have hlt' : ¬ (dn : Int) ≤ (i : Int) - 1 := by omega
    simp (disch := omega) only [SX, Nat.reduceAdd, hlt']
    refine k _ _ ⟨⟨true, rfl, ?_⟩, e1⟩
    simp only [true_iff]
    exact fun j k1 k2 => h3 j (by omega) k2

/-- What a search finds: the first place, from one on. -/
def FirstAt (l line : List UInt8) (fr : Nat) (v : Value) : Prop := (∃ a : Nat, v = .int .i64 a ∧ fr ≤ a ∧ occF l line a ∧ ∀ s, fr ≤ s → s < a → ¬ occF l line s) ∨ (v = .int .i64 (-1) ∧ ∀ s, fr ≤ s → ¬ occF l line s)

theorem occ_split {line : List UInt8} {a : Nat} (ha : a + l.length ≤ line.length) (hr : ∀ j, cut ≤ j → j < l.length → fnb l j = fnb line (a + j)) : occF l line a ↔ ∀ j, j < cut → j < l.length → fnb l j = fnb line (a + j) := by
  constructor
  · rintro ⟨_, h⟩ j _ hj; exact h j hj
  · intro h
    refine ⟨ha, fun j hj => ?_⟩
    rcases Nat.lt_or_ge j cut with hl | hl
    · exact h j hl hj
    · exact hr j hl hj

theorem twoway_plain {lv : Value} {line : List UInt8} (h : IsTwo w lo hi b l cut per small) (hlv : SlB w lv line) (hbig : line.length ≤ 2 ^ 40) (fr : Nat) (hfr : fr ≤ line.length) :
    RET Tryz.prog 49 [.pointer (some ⟨b, 0, none⟩), lv, .int .i64 fr] w fun v w' => FirstAt l line fr v ∧ Ext w w' := by
  have hok := h.ok
  have hcut := hok.inn
  have hp0 := hok.p0
  have hpn := hok.pn
  obtain ⟨Al, cl, rfl⟩ := hlv.shape
  refine RET_by fun R k => ?_
  apply by_twoway_Two_plain
  unfold sh_twoway_Two_plain
  refine ⟨fun av w1 => ∃ a : Nat, av = .int .i64 a ∧ fr ≤ a ∧ a ≤ line.length + 1 ∧ (∀ s, fr ≤ s → s < a → ¬ occF l line s) ∧ Ext w w1, fun av _ => line.length + 2 - vnat av, ⟨fr, rfl, Nat.le_refl _, by omega, fun s h1 h2 => by omega, Ext.refl w⟩, ?_⟩
  rintro av w1 ⟨a, rfl, h1, h2, h3, e1⟩
  have t1 := h.ext e1
  obtain ⟨A, c, o1, s1, _, _⟩ := id t1.ex
  have hs := s1.len
  by_cases hin : a + l.length ≤ line.length
  · have hin' : (a : Int) + (l.length : Int) ≤ (line.length : Int) := by omega
    simp (disch := omega) only [SX, Nat.reduceAdd, LD_23 (o1.cell (i := 0) rfl), hin', LD_3 (o1.cell (i := 1) rfl)]
    refine CALL_of (twoway_right t1 (hlv.ext e1) hin (Nat.le_of_lt hcut)) ?_
    rintro v w2 ⟨⟨i, rfl, r1, r2, r3, r4⟩, e2⟩
    have o2 := o1.ext e2
    by_cases hil : i < l.length
    · have hil' : (i : Int) < (l.length : Int) := by omega
      simp (disch := omega) only [SX, Nat.reduceAdd, LD_23 (o2.cell (i := 0) rfl), hil', LD_3 (o2.cell (i := 1) rfl)]
      refine ⟨⟨a + (i - cut + 1), vi (by omega), by omega, by omega, fun s k1 k2 => ?_, e1.trans e2⟩, by simp only [vnat_int]; omega⟩
      rcases Nat.lt_or_ge s a with hsa | hsa
      · exact h3 s k1 hsa
      · by_cases hsa' : s = a
        · subst hsa'
          intro ho
          exact r4 hil (ho.2 i hil)
        · have := shift_right hok (a := a) (i := i) (s := s - a) hil r3 (r4 hil) (by omega) (by omega)
          rwa [show a + (s - a) = s by omega] at this
    · have hil' : ¬ (i : Int) < (l.length : Int) := by omega
      obtain rfl : i = l.length := by omega
      simp (disch := omega) only [SX, Nat.reduceAdd, LD_23 (o2.cell (i := 0) rfl), hil']
      refine CALL_of (twoway_left (t1.ext e2) (hlv.ext (e1.trans e2)) hin 0) ?_
      rintro v w3 ⟨⟨r, rfl, hr⟩, e3⟩
      have hsp := occ_split hin r3
      cases r with
      | true =>
        simp (disch := omega) only [SX, Nat.reduceAdd]
        refine k _ _ ⟨.inl ⟨a, rfl, h1, hsp.2 fun j k1 k2 => hr.1 rfl j (Nat.zero_le _) k1, h3⟩, e1.trans (e2.trans e3)⟩
      | false =>
        have o3 := o2.ext e3
        simp (disch := omega) only [SX, Nat.reduceAdd, LD_3 (o3.cell (i := 2) rfl)]
        refine ⟨⟨a + per, vi (by omega), by omega, by omega, fun s k1 k2 => ?_, e1.trans (e2.trans e3)⟩, by simp only [vnat_int]; omega⟩
        rcases Nat.lt_or_ge s a with hsa | hsa
        · exact h3 s k1 hsa
        · by_cases hsa' : s = a
          · subst hsa'
            intro ho
            have := hr.2 fun j _ k2 => hsp.1 ho j k2 (by omega)
            cases this
          · have := shift_whole hok (a := a) (s := s - a) r3 (by omega) (by omega)
            rwa [show a + (s - a) = s by omega] at this
  · have hin' : ¬ (a : Int) + (l.length : Int) ≤ (line.length : Int) := by omega
    simp (disch := omega) only [SX, Nat.reduceAdd, LD_23 (o1.cell (i := 0) rfl), hin']
    refine k _ _ ⟨.inr ⟨rfl, fun s k1 => ?_⟩, e1⟩
    rcases Nat.lt_or_ge s a with hsa | hsa
    · exact h3 s k1 hsa
    · rintro ⟨ho, _⟩; omega

theorem twoway_lapped {lv : Value} {line : List UInt8} (h : IsTwo w lo hi b l cut per true) (hlv : SlB w lv line) (hbig : line.length ≤ 2 ^ 40) (fr : Nat) (hfr : fr ≤ line.length) :
    RET Tryz.prog 50 [.pointer (some ⟨b, 0, none⟩), lv, .int .i64 fr] w fun v w' => FirstAt l line fr v ∧ Ext w w' := by
  have hok := h.ok
  have hcut := hok.inn
  have hp0 := hok.p0
  obtain ⟨hper, hpn⟩ := hok.small rfl
  have hcp := (hok.rep per hp0 fun j _ _ k3 k4 => hper j k4 k3).1
  obtain ⟨Al, cl, rfl⟩ := hlv.shape
  refine RET_by fun R k => ?_
  apply by_twoway_Two_lapped
  unfold sh_twoway_Two_lapped
  refine ⟨fun av kv w1 => ∃ a n : Nat, av = .int .i64 a ∧ kv = .int .i64 n ∧ fr ≤ a ∧ a ≤ line.length + 1 ∧ n ≤ l.length ∧ (∀ j, j < n → fnb l j = fnb line (a + j)) ∧ (∀ s, fr ≤ s → s < a → ¬ occF l line s) ∧ Ext w w1, fun av _ _ => line.length + 2 - vnat av, ⟨fr, 0, rfl, rfl, Nat.le_refl _, by omega, Nat.zero_le _, fun j hj => by omega, fun s h1 h2 => by omega, Ext.refl w⟩, ?_⟩
  rintro av kv w1 ⟨a, n, rfl, rfl, h1, h2, hn, hkn, h3, e1⟩
  have t1 := h.ext e1
  obtain ⟨A, c, o1, s1, _, _⟩ := id t1.ex
  have hs := s1.len
  by_cases hin : a + l.length ≤ line.length
  · have hin' : (a : Int) + (l.length : Int) ≤ (line.length : Int) := by omega
    have hmax : max (cut : Int) (n : Int) = ((max cut n : Nat) : Int) := by omega
    simp (disch := omega) only [SX, Nat.reduceAdd, LD_23 (o1.cell (i := 0) rfl), hin', LD_3 (o1.cell (i := 1) rfl), hmax]
    refine CALL_of (twoway_right t1 (hlv.ext e1) hin (fr := max cut n) (by omega)) ?_
    rintro v w2 ⟨⟨i, rfl, r1, r2, r3', r4⟩, e2⟩
    have r3 : ∀ j, cut ≤ j → j < i → fnb l j = fnb line (a + j) := fun j k1 k2 => by
      rcases Nat.lt_or_ge j n with hj | hj
      · exact hkn j hj
      · exact r3' j (by omega) k2
    have o2 := o1.ext e2
    by_cases hil : i < l.length
    · have hil' : (i : Int) < (l.length : Int) := by omega
      simp (disch := omega) only [SX, Nat.reduceAdd, LD_23 (o2.cell (i := 0) rfl), hil', LD_3 (o2.cell (i := 1) rfl)]
      refine ⟨⟨a + (i - cut + 1), 0, vi (by omega), rfl, by omega, by omega, Nat.zero_le _, fun j hj => by omega, fun s k1 k2 => ?_, e1.trans e2⟩, by simp only [vnat_int]; omega⟩
      rcases Nat.lt_or_ge s a with hsa | hsa
      · exact h3 s k1 hsa
      · by_cases hsa' : s = a
        · subst hsa'
          intro ho
          exact r4 hil (ho.2 i hil)
        · have := shift_right hok (a := a) (i := i) (s := s - a) hil r3 (r4 hil) (by omega) (by omega)
          rwa [show a + (s - a) = s by omega] at this
    · have hil' : ¬ (i : Int) < (l.length : Int) := by omega
      obtain rfl : i = l.length := by omega
      simp (disch := omega) only [SX, Nat.reduceAdd, LD_23 (o2.cell (i := 0) rfl), hil']
      refine CALL_of (twoway_left (t1.ext e2) (hlv.ext (e1.trans e2)) hin n) ?_
      rintro v w3 ⟨⟨r, rfl, hr⟩, e3⟩
      have hsp := occ_split hin r3
      cases r with
      | true =>
        simp (disch := omega) only [SX, Nat.reduceAdd]
        refine k _ _ ⟨.inl ⟨a, rfl, h1, hsp.2 fun j k1 k2 => ?_, h3⟩, e1.trans (e2.trans e3)⟩
        rcases Nat.lt_or_ge j n with hj | hj
        · exact hkn j hj
        · exact hr.1 rfl j hj k1
      | false =>
        have o3 := o2.ext e3
        simp (disch := omega) only [SX, Nat.reduceAdd, DRAWQ, LD_3 (o3.cell (i := 2) rfl), RD_3 (o3.cell (i := 2) rfl), RD_23 (o3.cell (i := 0) rfl)]
        refine ⟨⟨a + per, l.length - per, vi (by omega), vi (by omega), by omega, by omega, by omega, fun j hj => ?_, fun s k1 k2 => ?_, e1.trans (e2.trans (e3.trans (Ext.drew _)))⟩, by simp only [vnat_int]; omega⟩
        · have q1 := r3 (per + j) (by omega) (by omega)
          have q2 := hper (per + j) (by omega) (by omega)
          rw [show per + j - per = j by omega] at q2
          rw [← q2, q1]
          congr 1
          omega
        · rcases Nat.lt_or_ge s a with hsa | hsa
          · exact h3 s k1 hsa
          · by_cases hsa' : s = a
            · subst hsa'
              intro ho
              have := hr.2 fun j _ k2 => hsp.1 ho j k2 (by omega)
              cases this
            · have := shift_whole hok (a := a) (s := s - a) r3 (by omega) (by omega)
              rwa [show a + (s - a) = s by omega] at this
  · have hin' : ¬ (a : Int) + (l.length : Int) ≤ (line.length : Int) := by omega
    simp (disch := omega) only [SX, Nat.reduceAdd, LD_23 (o1.cell (i := 0) rfl), hin']
    refine k _ _ ⟨.inr ⟨rfl, fun s k1 => ?_⟩, e1⟩
    rcases Nat.lt_or_ge s a with hsa | hsa
    · exact h3 s k1 hsa
    · rintro ⟨ho, _⟩; omega

theorem twoway_Next {lv : Value} {line : List UInt8} (h : IsTwo w lo hi b l cut per small) (hlv : SlB w lv line) (hbig : line.length ≤ 2 ^ 40) (fr : Nat) :
    RET Tryz.prog 51 [.pointer (some ⟨b, 0, none⟩), lv, .int .i64 fr] w fun v w' => FirstAt l line fr v ∧ Ext w w' := by
  have hne : 0 < l.length := List.length_pos_iff.2 h.ne
  have hlv' := hlv
  obtain ⟨Al, cl, rfl⟩ := hlv.shape
  refine RET_by fun R k => ?_
  apply by_twoway_Two_Next
  unfold sh_twoway_Two_Next
  by_cases hfr : fr ≤ line.length
  · refine ⟨fun w1 => w1 = w, ?_, ?_⟩
    · simp (disch := omega) only [SX, Nat.reduceAdd, show ¬ (line.length : Int) < (fr : Int) by omega]
    rintro _ rfl
    rename_i w
    obtain ⟨A, c, o1, s1, _, _⟩ := id h.ex
    have hmax : max (fr : Int) 0 = (fr : Int) := by omega
    simp (disch := omega) only [SX, Nat.reduceAdd, LD_111 (o1.cell (i := 4) rfl), hmax]
    cases small with
    | true => exact CALLV_of (first := #[]) (captured := #[]) (twoway_lapped h hlv' hbig fr hfr) fun v w' hv => k _ _ hv
    | false => exact CALLV_of (first := #[]) (captured := #[]) (twoway_plain h hlv' hbig fr hfr) fun v w' hv => k _ _ hv
  · refine ⟨fun _ => False, ?_, fun _ h => h.elim⟩
    simp (disch := omega) only [SX, Nat.reduceAdd, show (line.length : Int) < (fr : Int) by omega]
    exact k _ _ ⟨.inr ⟨rfl, fun s k1 => by rintro ⟨ho, _⟩; omega⟩, Ext.refl w⟩

def occB (l line : List UInt8) (a : Nat) : Bool := decide (a + l.length ≤ line.length) && (List.range l.length).all fun j => decide (fnb l j = fnb line (a + j))
theorem occB_iff {line : List UInt8} {a : Nat} : occB l line a = true ↔ occF l line a := by
  simp only [occB, occF, Bool.and_eq_true, decide_eq_true_eq, List.all_eq_true, List.mem_range]
/-- The places of a text ahead of a place. -/
def occs (l line : List UInt8) (k : Nat) : List (Int × Int) := ((List.range k).filter (occB l line)).map fun (a : Nat) => ((a : Int), ((a + l.length : Nat) : Int))
theorem occs_skip {line : List UInt8} {k m : Nat} (hkm : k ≤ m) (h : ∀ s, k ≤ s → s < m → ¬ occF l line s) : occs l line m = occs l line k := by
  induction m with
  | zero => obtain rfl : k = 0 := by omega
            rfl
  | succ m ih =>
    by_cases hk : k = m + 1
    · subst hk; rfl
    · rw [← ih (by omega) (fun s h1 h2 => h s h1 (by omega))]
      have : occB l line m = false := by
        cases hb : occB l line m with
        | false => rfl
        | true => exact (h m (by omega) (by omega) (occB_iff.1 hb)).elim
      simp [occs, List.range_succ, this]
theorem occs_hit {line : List UInt8} {a : Nat} (h : occF l line a) : occs l line (a + 1) = occs l line a ++ [((a : Int), ((a + l.length : Nat) : Int))] := by
  have : occB l line a = true := occB_iff.2 h
  simp [occs, List.range_succ, this]
theorem occs_rising (line : List UInt8) (k : Nat) : Rising (occs l line k) := by
  unfold Rising occs
  rw [List.pairwise_map]
  refine List.Pairwise.filter _ ?_
  refine List.pairwise_lt_range.imp ?_
  intro a b hab
  exact .inl (by simp only; omega)
theorem occs_mem {line : List UInt8} (hl : l ≠ []) (p : Int × Int) : p ∈ occs l line (line.length + 1) ↔ IsOcc [l] line p := by
  unfold occs IsOcc
  simp only [List.mem_map, List.mem_filter, List.mem_range, List.mem_singleton, occB_iff]
  constructor
  · rintro ⟨a, ⟨h1, h2⟩, rfl⟩
    exact ⟨l, rfl, hl, a, (occF_iff hl).1 h2, rfl⟩
  · rintro ⟨t, rfl, _, a, h2, rfl⟩
    have := (occF_iff hl).2 h2
    exact ⟨a, ⟨by have := this.1; omega, this⟩, rfl⟩
theorem occs_len (line : List UInt8) (k : Nat) : (occs l line k).length ≤ k := by
  unfold occs
  rw [List.length_map]
  exact Nat.le_trans (List.length_filter_le _ _) (by simp)

theorem twoway_Scan {lv : Value} {line : List UInt8} (h : IsTwo w lo hi b l cut per small) (hlv : SlB w lv line) (hbig : line.length ≤ 2 ^ 39) :
    RET Tryz.prog 30 [.pointer (some ⟨b, 0, none⟩), lv] w fun v w' => SlG pcells w' v (occs l line (line.length + 1)) ∧ (∀ k, v.ownBlock = some k → w.heap.size ≤ k) ∧ Ext w w' := by
  have hne : 0 < l.length := List.length_pos_iff.2 h.ne
  refine RET_by fun R k => ?_
  apply by_twoway_Two_Scan
  unfold sh_twoway_Two_Scan
  refine CALL_of (twoway_Next h hlv (by omega) 0) ?_
  rintro v w1 ⟨hv, e1⟩
  refine ⟨fun out av w2 => ∃ (fr m : Nat), FirstAt l line fr av ∧ fr ≤ line.length + 1 ∧ w2.ownsRow w.heap.size 57 2 out m ((occs l line fr).flatMap pcells) ∧ Ext w w2 ∧ m ≤ fr, fun _ av _ => match av with | .int _ x => if 0 ≤ x then line.length + 2 - x.toNat else 0 | _ => 0, ⟨0, 0, hv, by omega, World.ownsRow_nil _ _ _ _, e1, Nat.le_refl _⟩, ?_⟩
  rintro out av w2 ⟨fr, m, hv2, hfr, hr, e2, hm⟩
  have hmf : m = (occs l line fr).length := by have := hr.1; rw [flatMap_len pcells_len] at this; omega
  rcases hv2 with ⟨a, rfl, ha, hocc, hno⟩ | ⟨rfl, hno⟩
  · have hal := hocc.1
    obtain ⟨A, c, o1, s1, _, _⟩ := id (h.ext e2).ex
    have hs := s1.len
    simp (disch := omega) only [SX, Nat.reduceAdd, show (0 : Int) ≤ (a : Int) by omega, LD_23 (o1.cell (i := 0) rfl)]
    refine BS_37_1 fun w3 o3 e3 z3 => ?_
    obtain ⟨Ao, co, rfl, _⟩ := row_shape hr
    have hr3 := row_ext hr e3
    have z1 := e2.size
    refine APPEND (by kernel_rfl) IN_57 rfl (by omega) hr3 (news := [.int .i64 (a : Int), .int .i64 ((a : Int) + (l.length : Int))]) rfl (fun q u hq => by rw [addr_add]; exact o3.cell (by simpa using hq)) (by simp [Value.oneCell']) (by omega) (by unfold maxLen; omega) (by omega) (by have := e3.size; omega) fun g cap w4 o4 c4 g4 => ?_
    have ha1 : (a : Int) + 1 = ((a + 1 : Nat) : Int) := by omega
    try simp (disch := omega) only [SX, Nat.reduceAdd, ha1]
    have e4 : Ext w w4 := (e2.trans e3).ext_of c4 fun q hq => row_base hr3 q hq
    refine CALL_of (twoway_Next (h.ext e4) (hlv.ext e4) (by omega) (a + 1)) ?_
    rintro v w5 ⟨hv5, e5⟩
    refine ⟨⟨a + 1, m + 1, hv5, by omega, ?_, e4.trans e5, by omega⟩, ?_⟩
    · have := row_ext o4 e5
      rw [occs_hit hocc, occs_skip (k := fr) ha hno, List.flatMap_append]
      have e : (a : Int) + (l.length : Int) = ((a + l.length : Nat) : Int) := by omega
      rw [e] at this
      simpa [pcells] using this
    · rcases hv5 with ⟨a', rfl, h1, h2, _⟩ | ⟨rfl, _⟩
      · have := h2.1
        show (if (0 : Int) ≤ (a' : Int) then line.length + 2 - ((a' : Int)).toNat else 0) < (if (0 : Int) ≤ (a : Int) then line.length + 2 - ((a : Int)).toNat else 0)
        rw [if_pos (by omega), if_pos (by omega)]
        omega
      · show (if (0 : Int) ≤ (-1 : Int) then line.length + 2 - ((-1 : Int)).toNat else 0) < (if (0 : Int) ≤ (a : Int) then line.length + 2 - ((a : Int)).toNat else 0)
        rw [if_neg (by omega), if_pos (by omega)]
        omega
  · simp (disch := omega) only [SX, Nat.reduceAdd, show ¬ (0 : Int) ≤ (-1 : Int) by omega]
    have hfull : occs l line (line.length + 1) = occs l line fr := occs_skip hfr fun s h1 _ => hno s h1
    rw [← hfull] at hr
    have z1 := e1.size
    have hol := occs_len (l := l) line (line.length + 1)
    refine k _ _ ⟨(SlG.of_row pcells_len (by omega) hr (by omega)).1, fun q hq => by have := row_base hr q hq.symm; omega, e2⟩

theorem twoway_New {bv : Value} (hb : SlB w bv l) (hl : l ≠ []) (hs : l.length ≤ 2 ^ 40) : RET Tryz.prog 29 [bv] w fun v w' => (∃ (b cut per : Nat) (small : Bool), v = .tuple #[.pointer (some ⟨b, 0, none⟩), .int .i64 0] ∧ IsTwo w' w.heap.size w'.heap.size b l cut per small) ∧ Ext w w' := by
  have hpos : 0 < l.length := List.length_pos_iff.2 hl
  have hb' := hb
  obtain ⟨A0, c0, rfl⟩ := hb.shape
  refine RET_by fun R k => ?_
  apply by_twoway_New
  unfold sh_twoway_New
  simp (disch := omega) only [SX, Nat.reduceAdd, show ¬ (l.length : Int) = 0 by omega]
  refine CALL_of (slices_CloneB hb') ?_
  rintro v w1 ⟨hv, e1, hfr⟩
  refine CALL_of (critical_Factor (hb'.ext e1) hl hs) ?_
  rintro v2 w2 ⟨⟨cut, per, sm, rfl, hok⟩, e2⟩
  obtain ⟨A, c, rfl⟩ := hv.shape
  simp (disch := omega) only [SX, Nat.reduceAdd]
  refine BOXA fun w3 o3 e3 z3 => ?_
  simp (disch := omega) only [SX, Nat.reduceAdd, LD_4 (o3.cell (i := 3) rfl)]
  have z2 := e2.size
  have z1 := e1.size
  have hfr' : ∀ k, (Value.slice A l.length c).ownBlock = some k → w.heap.size ≤ k ∧ k < w3.heap.size := fun k hk => by have := hfr k hk; omega
  cases sm with
  | true =>
    simp (disch := omega) only [SX, Nat.reduceAdd]
    refine STORE SZ_111 o3 (by simp) rfl rfl fun w4 o4 c4 z4 => ?_
    try simp (disch := omega) only [SX, Nat.reduceAdd]
    refine k _ _ ⟨⟨_, cut, per, true, rfl, ⟨A, c, o4, ((hv.ext e2).ext e3).chg c4 (fun k hk => by have := hfr k hk; omega), by omega, fun k hk => by have := hfr' k hk; omega⟩, hok, hl⟩, (e1.trans (e2.trans e3)).ext_of c4 fun i hi => by omega⟩
  | false =>
    simp (disch := omega) only [SX, Nat.reduceAdd]
    refine k _ _ ⟨⟨_, cut, per, false, rfl, ⟨A, c, o3, (hv.ext e2).ext e3, by omega, fun k hk => by have := hfr' k hk; omega⟩, hok, hl⟩, e1.trans (e2.trans e3)⟩

theorem twoway_New_nil {bv : Value} (hb : SlB w bv []) : RET Tryz.prog 29 [bv] w fun v w' => v = .tuple #[.pointer none, .int .i64 1] ∧ Ext w w' := by
  obtain ⟨A0, c0, rfl⟩ := hb.shape
  refine RET_by fun R k => ?_
  apply by_twoway_New
  unfold sh_twoway_New
  simp (disch := omega) only [SX, Nat.reduceAdd, List.length_nil, Int.natCast_zero]
  exact k _ _ ⟨rfl, Ext.refl w⟩
end
end Go.Proofs.YtgjfhmahiiokeaaGreat.Y
