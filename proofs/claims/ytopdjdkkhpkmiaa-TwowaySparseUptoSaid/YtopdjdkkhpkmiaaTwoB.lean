import Derived.Test.YtopdjdkkhpkmiaaTwo
import Derived.Test.YtopdjdkkhpkmiaaFound
set_option linter.unusedVariables false
set_option linter.unusedSimpArgs false
set_option maxRecDepth 8000
namespace Go.Proofs.Ytopdjdkkhpkmiaa.Y
open Go Go.Sx

/-! ### Where a text is cut for a search -/
structure FactorOK (l : List UInt8) (cut per : Nat) (small : Bool) : Prop where
  inn : cut < l.length
  p0 : 0 < per
  pn : per ≤ l.length + 1
  rep : ∀ q, 0 < q → REPm (fnb l) l.length cut q → cut < q ∧ PERm (fnb l) l.length q
  least : ∀ q, 0 < q → PERm (fnb l) l.length q → per ≤ q
  small : small = true → PERm (fnb l) l.length per ∧ per ≤ l.length

theorem factor_ok {l : List UInt8} {t : Bool} {c p c' p' : Nat} (h : MaxOK l t c p) (h' : MaxOK l (!t) c' p') (hc : c' ≤ c) (small : Bool) (hs : small = true ↔ PERm (fnb l) l.length p) : FactorOK l c (if small then p else max c (l.length - c) + 1) small := by
  have hcr := fun {q : Nat} (hq : 0 < q) hr => crit (ord_strict t) (ord_strict (!t)) (ord_op t) h.max h'.max hc (q := q) hq hr
  have hin := h.inn
  have hlt := h.max.inn
  have h0 := h.p0
  refine ⟨hlt, by split <;> omega, by split <;> omega, fun q hq hr => hcr hq hr, fun q hq hp => ?_, fun hsm => ?_⟩
  · have hcq := (hcr hq (fun j _ _ h1 h2 => hp j h2 h1)).1
    split
    · rcases Nat.lt_or_ge q p with hl | hl
      · exact (h.least q hq hl fun x hx hn => hp x (by omega) hn).elim
      · exact hl
    · rename_i hsm
      have hno : ¬ PERm (fnb l) l.length p := fun hx => hsm (hs.2 hx)
      have := crit_long (ord_strict t) (ord_strict (!t)) (ord_op t) h.max h'.max hc h0 h.per h.least hno hq hp
      omega
  · rw [if_pos hsm]
    exact ⟨hs.1 hsm, by omega⟩

/-- A text stands at a place. -/
def occF (l line : List UInt8) (a : Nat) : Prop := a + l.length ≤ line.length ∧ ∀ j, j < l.length → fnb l j = fnb line (a + j)
theorem occF_iff {l line : List UInt8} {a : Nat} (hl : l ≠ []) : occF l line a ↔ l <+: line.drop a := by
  have h0 : 0 < l.length := List.length_pos_iff.2 hl
  constructor
  · rintro ⟨h1, h2⟩
    rw [List.prefix_iff_eq_take]
    apply List.ext_getElem
    · rw [List.length_take, List.length_drop]; omega
    · intro j hj hj'
      have := h2 j hj
      rw [fnb_get hj, fnb_get (by omega)] at this
      rw [this]
      simp
  · intro h
    have hle := h.length_le
    rw [List.length_drop] at hle
    refine ⟨by omega, fun j hj => ?_⟩
    rw [fnb_get hj, fnb_get (by omega)]
    have := List.prefix_iff_eq_take.1 h
    have h3 : l[j]? = ((line.drop a).take l.length)[j]? := by rw [← this]
    rw [List.getElem?_take, if_pos hj, List.getElem?_drop, List.getElem?_eq_getElem hj, List.getElem?_eq_getElem (by omega)] at h3
    exact Option.some.inj h3

/-- No shorter move: the right part fits up to i. -/
theorem shift_right {l line : List UInt8} {cut per : Nat} {small : Bool} (h : FactorOK l cut per small) {a i s : Nat} (hi : i < l.length) (hm : ∀ j, cut ≤ j → j < i → fnb l j = fnb line (a + j)) (hne : fnb l i ≠ fnb line (a + i)) (h0 : 0 < s) (hs : s ≤ i - cut) : ¬ occF l line (a + s) := by
  rintro ⟨h1, h2⟩
  have key : ∀ j, cut ≤ j → j < i → s ≤ j → fnb l j = fnb l (j - s) := fun j k1 k2 k3 => by
    rw [hm j k1 k2, h2 (j - s) (by omega)]
    congr 1
    omega
  obtain ⟨_, hp⟩ := h.rep s h0 fun j k1 k2 k3 k4 => key j k1 (by omega) k4
  apply hne
  rw [hp i (by omega) hi, h2 (i - s) (by omega)]
  congr 1
  omega
/-- No shorter move: the whole right part fits. -/
theorem shift_whole {l line : List UInt8} {cut per : Nat} {small : Bool} (h : FactorOK l cut per small) {a s : Nat} (hm : ∀ j, cut ≤ j → j < l.length → fnb l j = fnb line (a + j)) (h0 : 0 < s) (hs : s < per) : ¬ occF l line (a + s) := by
  rintro ⟨h1, h2⟩
  have key : ∀ j, cut ≤ j → j < l.length → s ≤ j → fnb l j = fnb l (j - s) := fun j k1 k2 k3 => by
    rw [hm j k1 k2, h2 (j - s) (by omega)]
    congr 1
    omega
  obtain ⟨_, hp⟩ := h.rep s h0 fun j k1 k2 k3 k4 => key j k1 k3 k4
  have := h.least s h0 hp
  omega

section
variable {w : World}

theorem critical_cut {bv : Value} {l : List UInt8} (hb : SlB w bv l) (hl : l ≠ []) (hs : l.length ≤ 2 ^ 40) : RET Try.prog 90 [bv] w fun v w' => (∃ (t : Bool) (c p c' p' : Nat), v = .agg #[.int .i64 c, .int .i64 p, .bool false] ∧ MaxOK l t c p ∧ MaxOK l (!t) c' p' ∧ c' ≤ c) ∧ Ext w w' := by
  refine RET_by fun R k => ?_
  apply by_critical_cut
  unfold sh_critical_cut
  refine AL_104 fun w1 o1 e1 z1 => ?_
  refine CALL_of (suffix_Max (hb.ext e1) hl hs false) ?_
  rintro v w2 ⟨⟨c, p, rfl, h1⟩, e2⟩
  simp (disch := omega) only [SX, Nat.reduceAdd]
  refine CALL_of (suffix_Max (hb.ext (e1.trans e2)) hl hs true) ?_
  rintro v w3 ⟨⟨c', p', rfl, h2⟩, e3⟩
  simp (disch := omega) only [SX, Nat.reduceAdd]
  have o3 := (o1.ext e2).ext e3
  have e03 := e1.trans (e2.trans e3)
  by_cases hgt : c < c'
  · have hgt' : (c : Int) < (c' : Int) := by omega
    simp (disch := omega) only [SX, Nat.reduceAdd, hgt']
    refine STOREA SZ_104 (vs := [.int .i64 c', .int .i64 p', .bool false]) rfl o3 (by simp) (by simp [Value.oneCell']) fun w4 o4 c4 z4 => ?_
    exact LOADRES_A (by kernel_rfl) SZ_104 (cellsAt_whole o4 rfl) (k _ _ ⟨⟨true, c', p', c, p, rfl, h2, h1, by omega⟩, e03.ext_of c4 fun i hi => by omega⟩)
  · have hgt' : ¬ (c : Int) < (c' : Int) := by omega
    simp (disch := omega) only [SX, Nat.reduceAdd, hgt']
    refine STOREA SZ_104 (vs := [.int .i64 c, .int .i64 p, .bool false]) rfl o3 (by simp) (by simp [Value.oneCell']) fun w4 o4 c4 z4 => ?_
    exact LOADRES_A (by kernel_rfl) SZ_104 (cellsAt_whole o4 rfl) (k _ _ ⟨⟨false, c, p, c', p', rfl, h1, h2, by omega⟩, e03.ext_of c4 fun i hi => by omega⟩)

theorem slB_sub {A : Option Addr} {n c : Nat} {l : List UInt8} (h : SlB w (.slice A n c) l) {a m : Nat} (hm : a + m ≤ l.length) : SlB w (.slice (sub A c a 1) m (c - a)) ((l.drop a).take m) := by
  obtain ⟨A', c', he, hr, h1, h2⟩ := h
  injection he with e1 e2 e3
  subst e1 e2 e3
  have hlen : ((l.drop a).take m).length = m := by rw [List.length_take, List.length_drop]; omega
  refine ⟨_, _, by rw [hlen], ?_, by omega, by omega⟩
  rcases hr with hr | ⟨b, o, rfl, hr⟩
  · left
    have : l = [] := by simpa using hr
    subst this
    simp
  · unfold sub
    by_cases hca : c = a
    · left
      have : m = 0 := by omega
      subst this
      simp
    · rw [if_neg hca]
      right
      refine ⟨b, o + a, by simp [addr_add], fun i v hi => ?_⟩
      rw [Nat.add_assoc]
      apply hr
      rw [List.getElem?_map] at hi ⊢
      rw [List.getElem?_take] at hi
      split at hi
      · rw [List.getElem?_drop] at hi; exact hi
      · cases hi

theorem critical_alike {bv : Value} {l : List UInt8} (hb : SlB w bv l) {a b n : Nat} (ha : a + n ≤ l.length) (hbn : b + n ≤ l.length) : RET Try.prog 91 [bv, .int .i64 a, .int .i64 b, .int .i64 n] w fun v w' => v = .bool (decide ((l.drop a).take n = (l.drop b).take n)) ∧ Ext w w' := by
  have hll := hb.len
  obtain ⟨A, c, rfl⟩ := hb.shape
  have hlc : l.length ≤ c := by obtain ⟨_, _, he, _, h1, _⟩ := hb; injection he with _ _ e3; omega
  refine RET_by fun R k => ?_
  apply by_critical_text_alike
  unfold sh_critical_text_alike
  have h1 : (a : Int) + (n : Int) = ((a + n : Nat) : Int) := by omega
  have h2 : (b : Int) + (n : Int) = ((b + n : Nat) : Int) := by omega
  simp (disch := omega) only [DRAWQ, SX, Nat.reduceAdd, h1, h2]
  have s1 := slB_sub hb ha
  have s2 := slB_sub hb hbn
  rw [show a + n - a = n by omega, show b + n - b = n by omega]
  refine (READ_eq (run_STR Try.underlying151 Try.underlying5 Try.underlying9 (s1.ext (Ext.drew _))) fun w' hw => run_STR Try.underlying151 Try.underlying5 Try.underlying9 (s1.same hw)).mpr ?_
  try simp (disch := omega) only [SX, Nat.reduceAdd, h1, h2]
  try rw [show b + n - b = n by omega]
  refine (READ_eq (run_STR Try.underlying151 Try.underlying5 Try.underlying9 (s2.ext (Ext.drew _))) fun w' hw => run_STR Try.underlying151 Try.underlying5 Try.underlying9 (s2.same hw)).mpr ?_
  refine (STR_eq (a := (l.drop a).take n) (b := (l.drop b).take n)).mpr ?_
  exact k _ _ ⟨rfl, Ext.drew w⟩

theorem per_take {l : List UInt8} {c p : Nat} (hc : c + p ≤ l.length) (hp : ∀ x, c + p ≤ x → x < l.length → fnb l x = fnb l (x - p)) : (l.drop 0).take c = (l.drop p).take c ↔ PERm (fnb l) l.length p := by
  constructor
  · intro h j hj hn
    rcases Nat.lt_or_ge j (c + p) with hl | hl
    · have := congrArg (fun x => x[j - p]?) h
      simp only [List.getElem?_take, List.getElem?_drop] at this
      rw [if_pos (by omega), if_pos (by omega), List.getElem?_eq_getElem (by omega), List.getElem?_eq_getElem (by omega)] at this
      rw [fnb_get hn, fnb_get (by omega)]
      have h2 := Option.some.inj this
      simp only [show 0 + (j - p) = j - p by omega, show p + (j - p) = j by omega] at h2
      exact h2.symm
    · exact hp j hl hn
  · intro h
    apply List.ext_getElem?
    intro j
    simp only [List.getElem?_take, List.getElem?_drop]
    split
    · rename_i hj
      rw [List.getElem?_eq_getElem (by omega), List.getElem?_eq_getElem (by omega)]
      have := h (p + j) (by omega) (by omega)
      rw [fnb_get (by omega), fnb_get (by omega)] at this
      congr 1
      rw [this]
      congr 1
      omega
    · rfl

theorem critical_Factor {bv : Value} {l : List UInt8} (hb : SlB w bv l) (hl : l ≠ []) (hs : l.length ≤ 2 ^ 40) : RET Try.prog 62 [bv] w fun v w' => (∃ (c per : Nat) (sm : Bool), v = .agg #[.int .i64 c, .int .i64 per, .bool sm] ∧ FactorOK l c per sm) ∧ Ext w w' := by
  refine RET_by fun R k => ?_
  apply by_critical_Factor
  unfold sh_critical_Factor
  refine AL_104 fun w1 o1 e1 z1 => ?_
  refine CALL_of (critical_cut (hb.ext e1) hl hs) ?_
  rintro v w2 ⟨⟨t, c, p, c', p', rfl, h1, h2, hc⟩, e2⟩
  have hin := h1.inn
  have hp0 := h1.p0
  refine AL_104 fun w3 o3 e3 z3 => ?_
  refine STOREA SZ_104 (vs := [.int .i64 c, .int .i64 p, .bool false]) rfl o3 (by simp) (by simp [Value.oneCell']) fun w4 o4 c4 z4 => ?_
  have o4 : Own w4 w2.heap.size [.int .i64 c, .int .i64 p, .bool false] 104 := o4
  have z2 := e2.size
  have o14 : Own w4 w.heap.size [.int .i64 0, .int .i64 0, .bool false] 104 := ((o1.ext e2).ext e3).chg c4 (by have := o1.lt; omega)
  have e04 : Ext w w4 := (e1.trans (e2.trans e3)).ext_of c4 fun i hi => by have := e1.size; omega
  have hlt1 := o1.lt
  simp (disch := omega) only [LA_104 (cellsAt_whole o4 rfl), SX, Nat.reduceAdd]
  have hne : ¬ ((p : Int) = 0) := by omega
  obtain ⟨A, cc, rfl⟩ := hb.shape
  have hll := hb.len
  have hz : (decide ((c : Int) = 0) && decide ((p : Int) = 0)) = false := by simp; omega
  simp (disch := omega) only [hz, SX, Nat.reduceAdd, LD_3 (o4.cell (i := 1) rfl), LD_3 (o4.cell (i := 0) rfl)]
  refine CALLV_of (first := #[.slice A l.length cc]) (captured := #[]) (critical_alike (hb.ext e04) (a := 0) (b := p) (n := c) (by omega) (by omega)) ?_
  rintro v w5 ⟨rfl, e5⟩
  have hper := per_take (l := l) (c := c) (p := p) hin h1.per
  refine STORE SZ_4 (o4.ext e5) (by simp) rfl rfl fun w6 o6 c6 z6 => ?_
  have o6 : Own w6 w2.heap.size [.int .i64 c, .int .i64 p, .bool (decide ((l.drop 0).take c = (l.drop p).take c))] 104 := o6
  have o16 := (o14.ext e5).chg c6 (by omega)
  have e06 : Ext w w6 := (e04.trans e5).ext_of c6 fun i hi => by have := e1.size; omega
  generalize hsm : decide ((l.drop 0).take c = (l.drop p).take c) = sm at *
  have hf := factor_ok h1 h2 hc sm (by rw [← hper, ← hsm, decide_eq_true_iff])
  cases sm with
  | true =>
    simp (disch := omega) only [SX, Nat.reduceAdd, LD_4 (o6.cell (i := 2) rfl), LA_104 (cellsAt_whole o6 rfl)]
    refine STOREA SZ_104 (vs := [.int .i64 c, .int .i64 p, .bool true]) rfl o16 (by simp) (by simp [Value.oneCell']) fun w7 o7 c7 z7 => ?_
    exact LOADRES_A (by kernel_rfl) SZ_104 (cellsAt_whole o7 rfl) (k _ _ ⟨⟨c, p, true, rfl, hf⟩, e06.ext_of c7 fun i hi => by omega⟩)
  | false =>
    simp (disch := omega) only [SX, Nat.reduceAdd, LD_4 (o6.cell (i := 2) rfl), LD_3 (o6.cell (i := 0) rfl)]
    refine STORE SZ_3 o6 (by simp) rfl rfl fun w7 o7 c7 z7 => ?_
    have hmx : max (c : Int) ((l.length : Int) - (c : Int)) + 1 = ((max c (l.length - c) + 1 : Nat) : Int) := by omega
    rw [hmx] at o7
    have o7 : Own w7 w2.heap.size [.int .i64 c, .int .i64 ((max c (l.length - c) + 1 : Nat) : Int), .bool false] 104 := o7
    try simp (disch := omega) only [SX, Nat.reduceAdd]
    rw [LA_104 (cellsAt_whole o7 rfl)]
    refine STOREA SZ_104 (vs := [.int .i64 c, .int .i64 ((max c (l.length - c) + 1 : Nat) : Int), .bool false]) rfl (o16.chg c7 (by omega)) (by simp) (by simp [Value.oneCell']) fun w8 o8 c8 z8 => ?_
    exact LOADRES_A (by kernel_rfl) SZ_104 (cellsAt_whole o8 rfl) (k _ _ ⟨⟨c, _, false, rfl, hf⟩, (e06.ext_of c7 fun i hi => by have := e1.size; omega).ext_of c8 fun i hi => by omega⟩)
end
end Go.Proofs.Ytopdjdkkhpkmiaa.Y
