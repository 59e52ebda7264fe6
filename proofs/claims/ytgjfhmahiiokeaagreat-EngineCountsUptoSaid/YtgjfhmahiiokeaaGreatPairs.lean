import Derived.Test.YtgjfhmahiiokeaaGreatSlices
import Derived.Test.YtgjfhmahiiokeaaGreatLib
set_option linter.unusedVariables false
set_option linter.unusedSimpArgs false
set_option linter.unusedVariables false
set_option linter.unusedSimpArgs false
set_option maxRecDepth 8000
namespace Go.Proofs.YtgjfhmahiiokeaaGreat.Y
open Go Go.Sx

/-! ### Pairs, in order -/
def ltP (p q : Int × Int) : Prop := p.1 < q.1 ∨ (p.1 = q.1 ∧ p.2 < q.2)
def leP (p q : Int × Int) : Prop := p = q ∨ ltP p q
instance (p q : Int × Int) : Decidable (ltP p q) := inferInstanceAs (Decidable (_ ∨ _))
theorem ltP_trans {a b c : Int × Int} (h : ltP a b) (k : ltP b c) : ltP a c := by unfold ltP at *; omega
theorem ltP_irrefl (a : Int × Int) : ¬ ltP a a := by unfold ltP; omega
theorem leP_total (a b : Int × Int) : leP a b ∨ ltP b a := by
  unfold leP ltP
  by_cases h : a = b
  · exact .inl (.inl h)
  · have : ¬ (a.1 = b.1 ∧ a.2 = b.2) := fun hh => h (Prod.ext hh.1 hh.2)
    omega
theorem leP_trans {a b c : Int × Int} (h : leP a b) (k : leP b c) : leP a c := by
  rcases h with rfl | h
  · exact k
  · rcases k with rfl | k
    · exact .inr h
    · exact .inr (ltP_trans h k)
theorem ltP_of {a b c : Int × Int} (h : leP a b) (k : ltP b c) : ltP a c := by
  rcases h with rfl | h
  · exact k
  · exact ltP_trans h k
def Rising (l : List (Int × Int)) : Prop := l.Pairwise ltP
/-- A rising list is known by what is in it. -/
theorem rising_ext : ∀ {l m : List (Int × Int)}, Rising l → Rising m → (∀ p, p ∈ l ↔ p ∈ m) → l = m
  | [], [], _, _, _ => rfl
  | [], y :: m, _, _, h => by have := (h y).2 (by simp); simp at this
  | x :: l, [], _, _, h => by have := (h x).1 (by simp); simp at this
  | x :: l, y :: m, hl, hm, h => by
    have hl' := List.pairwise_cons.1 hl
    have hm' := List.pairwise_cons.1 hm
    have hxy : x = y := by
      rcases List.mem_cons.1 ((h x).1 (by simp)) with e | hx
      · exact e
      · rcases List.mem_cons.1 ((h y).2 (by simp)) with e | hy
        · exact e.symm
        · exact (ltP_irrefl _ (ltP_trans (hl'.1 y hy) (hm'.1 x hx))).elim
    subst hxy
    congr 1
    refine rising_ext hl'.2 hm'.2 fun p => ?_
    constructor
    · intro hp
      rcases List.mem_cons.1 ((h p).1 (List.mem_cons_of_mem _ hp)) with e | hh
      · subst e; exact (ltP_irrefl _ (hl'.1 p hp)).elim
      · exact hh
    · intro hp
      rcases List.mem_cons.1 ((h p).2 (List.mem_cons_of_mem _ hp)) with e | hh
      · subst e; exact (ltP_irrefl _ (hm'.1 p hp)).elim
      · exact hh

def vlen : Value → Nat
  | .slice _ n _ => n
  | _ => 0

theorem cellsAt_ext {w w' : World} (e : Ext w w') {b o n : Nat} {cs : List Value} (h : cellsAt w b o n = some cs) (hb : b < w.heap.size) : cellsAt w' b o n = some cs := by
  rw [cellsAt_heap b (e.block b hb (fun x => x))]
  exact h

theorem _root_.Go.Sx.SlG.uncons {w : World} {v : Value} {a : Int × Int} {xa : List (Int × Int)} (h : SlG pcells w v (a :: xa)) : ∃ b o c, v = .slice (some ⟨b, o, none⟩) (xa.length + 1) c ∧ cellsAt w b o 2 = some (pcells a) ∧ b < w.heap.size ∧ 1 ≤ c ∧ SlG pcells w (.slice (sub (some ⟨b, o, none⟩) c 1 2) xa.length (c - 1)) xa := by
  obtain ⟨A, c, rfl, hr, hc, hl⟩ := h
  simp only [List.length_cons] at hc hl
  rcases id hr with hr' | ⟨b, o, rfl, hr'⟩
  · simp [pcells] at hr'
  · have h0 := hr' 0 (.int .i64 a.1) rfl
    have h1 := hr' 1 (.int .i64 a.2) rfl
    refine ⟨b, o, c, rfl, ?_, World.block_lt_of_cell? w _ h0, by omega, ⟨_, _, rfl, Rd_sub hr (by rw [flatMap_len pcells_len]; simp; omega) _ (fun i u hu => ?_), by omega, by omega⟩⟩
    · simp only [cellsAt]
      rw [Nat.add_zero] at h0
      rw [h0, h1]
      rfl
    · simp only [List.flatMap_cons]
      rw [List.getElem?_append_right (by simp [pcells]), show 1 * 2 + i - (pcells a).length = i by simp [pcells]]
      exact hu

section
variable {w : World}

theorem pairs_Less (p q : Int × Int) : RET Tryz.prog 57 [.agg (pcells p).toArray, .agg (pcells q).toArray] w fun v w' => v = .bool (decide (ltP p q)) ∧ Ext w w' := by
  refine RET_by fun R k => ?_
  apply by_pairs_Less
  unfold sh_pairs_Less
  refine BOXA fun w1 o1 e1 z1 => ?_
  refine BOXA fun w2 o2 e2 z2 => ?_
  have a0 := (o1.ext e2).cell (i := 0) rfl
  have a1 := (o1.ext e2).cell (i := 1) rfl
  have b0 := o2.cell (i := 0) rfl
  have b1 := o2.cell (i := 1) rfl
  by_cases h : p.1 = q.1
  · simp (disch := omega) only [SX, Nat.reduceAdd, LD_3 a0, LD_3 a1, LD_3 b0, LD_3 b1, h]
    refine k _ _ ⟨?_, e1.trans e2⟩
    congr 1
    rw [decide_eq_decide]
    unfold ltP
    omega
  · simp (disch := omega) only [SX, Nat.reduceAdd, LD_3 a0, LD_3 a1, LD_3 b0, LD_3 b1, h]
    refine k _ _ ⟨?_, e1.trans e2⟩
    congr 1
    rw [decide_eq_decide]
    unfold ltP
    omega

theorem pairs_joined {av bv : Value} {xa0 xb0 : List (Int × Int)} (ha : SlG pcells w av xa0) (hb : SlG pcells w bv xb0) (ra : Rising xa0) (rb : Rising xb0) (hl : xa0.length + xb0.length ≤ 2 ^ 40) :
    RET Tryz.prog 56 [av, bv, .func (.func 57) #[] #[]] w fun v w' => ∃ r, w'.ownsRow w.heap.size 57 2 v r.length (r.flatMap pcells) ∧ Rising r ∧ (∀ p, p ∈ r ↔ p ∈ xa0 ∨ p ∈ xb0) ∧ r.length ≤ xa0.length + xb0.length ∧ Ext w w' := by
  refine RET_by fun R k => ?_
  apply by_pairs_joined_api_Pair
  unfold sh_pairs_joined_api_Pair
  refine ⟨fun a b out w1 => ∃ xa xb xs, SlG pcells w a xa ∧ SlG pcells w b xb ∧ w1.ownsRow w.heap.size 57 2 out xs.length (xs.flatMap pcells) ∧ Ext w w1 ∧ Rising xa ∧ Rising xb ∧ Rising xs ∧ (∀ p ∈ xs, ∀ q, q ∈ xa ∨ q ∈ xb → leP p q) ∧ (∀ p, (p ∈ xs ∨ p ∈ xa ∨ p ∈ xb) ↔ (p ∈ xa0 ∨ p ∈ xb0)) ∧ xs.length + (xa.length + xb.length) ≤ xa0.length + xb0.length,
    fun a b _ _ => vlen a + vlen b, ⟨xa0, xb0, [], ha, hb, World.ownsRow_nil _ _ _ _, Ext.refl w, ra, rb, List.Pairwise.nil, by simp, by simp, by simp⟩, ?_⟩
  rintro a b out w1 ⟨xa, xb, xs, ha, hb, hr, he, ra, rb, rx, hle, hmem, hlen⟩
  have la := ha.len
  have lb := hb.len
  obtain ⟨Aa, ca, rfl⟩ := ha.shape
  obtain ⟨Ab, cb, rfl⟩ := hb.shape
  obtain ⟨Ao, co, rfl, hco⟩ := row_shape hr
  by_cases hz : xa = [] ∧ xb = []
  · obtain ⟨rfl, rfl⟩ := hz
    refine ⟨fun _ => False, ?_, fun _ hf => hf.elim⟩
    simp (disch := omega) only [SX, Nat.reduceAdd, List.length_nil, Int.natCast_zero, show ¬ ((0 : Int) < 0) by decide]
    refine k _ _ ⟨xs, hr, rx, fun p => ?_, by omega, he⟩
    rw [← hmem p]; simp
  · have hz' : xa.length ≠ 0 ∨ xb.length ≠ 0 := by
      cases xa <;> cases xb <;> simp at *
    refine ⟨fun w2 => w2 = w1, ?_, ?_⟩
    · by_cases ha0 : 0 < xa.length
      · have : (0 : Int) < (xa.length : Int) := by omega
        simp (disch := omega) only [SX, Nat.reduceAdd, this]
      · have h1 : ¬ (0 : Int) < (xa.length : Int) := by omega
        have h2 : (0 : Int) < (xb.length : Int) := by omega
        simp (disch := omega) only [SX, Nat.reduceAdd, h1, h2]
    rintro _ rfl
    rename_i w1
    refine AL_57 fun w2 o2 e2 z2 => ?_
    have he1 := he.size
    refine ⟨fun a' b' w3 => ∃ x ya yb, SlG pcells w a' ya ∧ SlG pcells w b' yb ∧ Rising ya ∧ Rising yb ∧ ((xa = x :: ya ∧ xb = yb) ∨ (xb = x :: yb ∧ xa = ya)) ∧ (∀ q, q ∈ xa ∨ q ∈ xb → leP x q) ∧ Ext w1 w3 ∧ Own w3 w1.heap.size (pcells x) 57, ?_, ?_⟩
    · refine ⟨fun v w3 => ∃ t : Bool, v = .bool t ∧ (t = true → ∃ x ya, xa = x :: ya ∧ ∀ q, q ∈ xa ∨ q ∈ xb → leP x q) ∧ (t = false → ∃ x yb, xb = x :: yb ∧ ∀ q, q ∈ xa ∨ q ∈ xb → leP x q) ∧ Ext w1 w3 ∧ Own w3 w1.heap.size [.int .i64 0, .int .i64 0] 57, ?_, ?_⟩
      · have o2d : Own w2.drew w1.heap.size [.int .i64 0, .int .i64 0] 57 := o2
        have e2d : Ext w1 w2.drew := e2.trans (Ext.drew _)
        cases xb with
        | nil =>
          simp (disch := omega) only [DRAWQ, SX, Nat.reduceAdd, List.length_nil, Int.natCast_zero]
          refine ⟨true, rfl, fun _ => ?_, by simp, e2d, o2d⟩
          cases xa with
          | nil => simp at hz
          | cons x ya =>
            refine ⟨x, ya, rfl, fun q hq => ?_⟩
            rcases hq with hq | hq
            · rcases List.mem_cons.1 hq with rfl | hq
              · exact .inl rfl
              · exact .inr ((List.pairwise_cons.1 ra).1 q hq)
            · simp at hq
        | cons y yb =>
          have h1 : ¬ (((y :: yb).length : Nat) : Int) = 0 := by simp only [List.length_cons]; omega
          cases xa with
          | nil =>
            simp (disch := omega) only [DRAWQ, SX, Nat.reduceAdd, h1, List.length_nil, Int.natCast_zero, show ¬ ((0 : Int) < 0) by decide]
            refine ⟨false, rfl, by simp, fun _ => ⟨y, yb, rfl, fun q hq => ?_⟩, e2d, o2d⟩
            rcases hq with hq | hq
            · simp at hq
            · rcases List.mem_cons.1 hq with rfl | hq
              · exact .inl rfl
              · exact .inr ((List.pairwise_cons.1 rb).1 q hq)
          | cons x ya =>
            have h2 : (0 : Int) < (((x :: ya).length : Nat) : Int) := by simp only [List.length_cons]; omega
            have h3 : (0 : Int) < (((y :: yb).length : Nat) : Int) := by simp only [List.length_cons]; omega
            obtain ⟨b1, q1, c1, hv1, hc1, hb1, _⟩ := ha.uncons
            obtain ⟨b2, q2, c2, hv2, hc2, hb2, _⟩ := hb.uncons
            injection hv1 with hv1; subst hv1
            injection hv2 with hv2; subst hv2
            have d1 := cellsAt_ext (he.trans e2) hc1 hb1
            have d2 := cellsAt_ext (he.trans e2) hc2 hb2
            simp (disch := omega) only [DRAWQ, SX, Nat.reduceAdd, h1, h2, Int.toNat_zero, Nat.zero_mul, Nat.add_zero]
            rw [RA_57 d2]
            try simp (disch := omega) only [SX, Nat.reduceAdd, Int.toNat_zero, Nat.zero_mul, Nat.add_zero]
            rw [RA_57 d1]
            refine CALLV_of (pairs_Less y x) ?_
            rintro v w3 ⟨rfl, e3⟩
            simp (disch := omega) only [SX, Nat.reduceAdd]
            refine ⟨_, rfl, fun ht => ⟨x, ya, rfl, fun q hq => ?_⟩, fun ht => ⟨y, yb, rfl, fun q hq => ?_⟩, e2d.trans e3, o2d.ext e3⟩
            · have hn : ¬ ltP y x := by simpa using ht
              have hxy : leP x y := by rcases leP_total x y with h | h; exact h; exact (hn h).elim
              rcases hq with hq | hq
              · rcases List.mem_cons.1 hq with rfl | hq
                · exact .inl rfl
                · exact .inr ((List.pairwise_cons.1 ra).1 q hq)
              · rcases List.mem_cons.1 hq with rfl | hq
                · exact hxy
                · exact leP_trans hxy (.inr ((List.pairwise_cons.1 rb).1 q hq))
            · have hn : ltP y x := by simpa using ht
              rcases hq with hq | hq
              · rcases List.mem_cons.1 hq with rfl | hq
                · exact .inr hn
                · exact .inr (ltP_trans hn ((List.pairwise_cons.1 ra).1 q hq))
              · rcases List.mem_cons.1 hq with rfl | hq
                · exact .inl rfl
                · exact .inr ((List.pairwise_cons.1 rb).1 q hq)
      · rintro v w3 ⟨t, rfl, ht, hf, e3, o3⟩
        cases t with
        | true =>
          obtain ⟨x, ya, rfl, hx⟩ := ht rfl
          obtain ⟨b1, q1, c1, hv1, hc1, hb1, hc1', hs1⟩ := ha.uncons
          injection hv1 with hv1 _ hcc; subst hv1 hcc
          have d1 := cellsAt_ext (he.trans e3) hc1 hb1
          have h2 : (0 : Int) < (((x :: ya).length : Nat) : Int) := by simp only [List.length_cons]; omega
          simp (disch := omega) only [DRAWQ, SX, Nat.reduceAdd, Int.toNat_zero, Nat.zero_mul, Nat.add_zero]
          rw [RA_57 d1]
          have h3 : (1 : Int) ≤ (((x :: ya).length : Nat) : Int) := by simp only [List.length_cons]; omega
          try simp (disch := omega) only [SX, Nat.reduceAdd]
          refine STOREA SZ_57 rfl o3.drew (by simp [pcells]) (by simp [pcells, Value.oneCell']) fun w4 o4 c4 z4 => ?_
          refine ⟨x, ya, xb, ?_, hb, (List.pairwise_cons.1 ra).2, rb, .inl ⟨rfl, rfl⟩, hx, e3.ext_of c4.of_drew fun i hi => by omega, o4⟩
          have : ((x :: ya).length - Int.toNat 1) = ya.length := by simp
          rw [this]
          exact hs1
        | false =>
          obtain ⟨x, yb, rfl, hx⟩ := hf rfl
          obtain ⟨b1, q1, c1, hv1, hc1, hb1, hc1', hs1⟩ := hb.uncons
          injection hv1 with hv1 _ hcc; subst hv1 hcc
          have d1 := cellsAt_ext (he.trans e3) hc1 hb1
          have h2 : (0 : Int) < (((x :: yb).length : Nat) : Int) := by simp only [List.length_cons]; omega
          simp (disch := omega) only [DRAWQ, SX, Nat.reduceAdd, Int.toNat_zero, Nat.zero_mul, Nat.add_zero]
          rw [RA_57 d1]
          have h3 : (1 : Int) ≤ (((x :: yb).length : Nat) : Int) := by simp only [List.length_cons]; omega
          try simp (disch := omega) only [SX, Nat.reduceAdd]
          refine STOREA SZ_57 rfl o3.drew (by simp [pcells]) (by simp [pcells, Value.oneCell']) fun w4 o4 c4 z4 => ?_
          refine ⟨x, xa, yb, ha, ?_, ra, (List.pairwise_cons.1 rb).2, .inr ⟨rfl, rfl⟩, hx, e3.ext_of c4.of_drew fun i hi => by omega, o4⟩
          have : ((x :: yb).length - Int.toNat 1) = yb.length := by simp
          rw [this]
          exact hs1
    · rintro a' b' w3 ⟨x, ya, yb, ha', hb', ra', rb', hpart, hx, e3, o3⟩
      obtain ⟨Aa', ca', rfl⟩ := ha'.shape
      obtain ⟨Ab', cb', rfl⟩ := hb'.shape
      have hsum : ya.length + yb.length + 1 = xa.length + xb.length := by rcases hpart with ⟨rfl, rfl⟩ | ⟨rfl, rfl⟩ <;> simp <;> omega
      have hmemx : ∀ p, (p ∈ xa ∨ p ∈ xb) ↔ (p = x ∨ p ∈ ya ∨ p ∈ yb) := by
        intro p
        rcases hpart with ⟨rfl, rfl⟩ | ⟨rfl, rfl⟩
        · simp only [List.mem_cons, or_assoc]
        · simp only [List.mem_cons]
          constructor
          · rintro (h | h | h)
            · exact .inr (.inl h)
            · exact .inl h
            · exact .inr (.inr h)
          · rintro (h | h | h)
            · exact .inr (.inl h)
            · exact .inl h
            · exact .inr (.inr h)
      have hr3 := row_ext hr e3
      have hxcell := cellsAt_whole o3 (n := 2) rfl
      have push : (xs = [] ∨ ∃ y, xs.getLast? = some y ∧ y ≠ x) → ∀ wd, Ext w3 wd → RUN Tryz.prog (Instr.buildSlice 37 1 #[(0, .agg (pcells x).toArray)]) wd fun v42 w9 => RUN Tryz.prog (Builtin.append_ #[37, 37] 37 #[.slice Ao xs.length co, v42]) w9 fun v43 w4 =>
          ∃ ua ub us, SlG pcells w (.slice Aa' ya.length ca') ua ∧ SlG pcells w (.slice Ab' yb.length cb') ub ∧ w4.ownsRow w.heap.size 57 2 v43 us.length (us.flatMap pcells) ∧ Ext w w4 ∧ Rising ua ∧ Rising ub ∧ Rising us ∧ (∀ p ∈ us, ∀ q, q ∈ ua ∨ q ∈ ub → leP p q) ∧ (∀ p, (p ∈ us ∨ p ∈ ua ∨ p ∈ ub) ↔ (p ∈ xa0 ∨ p ∈ xb0)) ∧ us.length + (ua.length + ub.length) ≤ xa0.length + xb0.length := by
        intro hlast wd ed
        refine BS_37_1 fun w5 o5 e5 z5 => ?_
        have hr5 := row_ext (row_ext hr3 ed) e5
        refine APPEND (by kernel_rfl) IN_57 rfl (by omega) hr5 (news := pcells x) rfl (fun j u hj => by rw [addr_add]; exact o5.cell (by simpa [pcells] using hj)) (by simp [pcells, Value.oneCell']) (by omega) (by unfold maxLen; omega) (by omega) (by have := e3.size; have := ed.size; have := e5.size; omega) fun g cap w6 o6 c6 g6 => ?_
        have e06 : Ext w w6 := (he.trans (e3.trans (ed.trans e5))).ext_of c6 fun i hi => row_base hr5 i hi
        refine ⟨ya, yb, xs ++ [x], ha', hb', by rw [List.length_append, List.flatMap_append]; simpa using o6, e06, ra', rb', ?_, ?_, ?_, by simp; omega⟩
        · unfold Rising
          rw [List.pairwise_append]
          refine ⟨rx, by simp, fun p hp q hq => ?_⟩
          simp only [List.mem_singleton] at hq
          subst hq
          rcases hle p hp q ((hmemx q).2 (.inl rfl)) with he | hlt
          · subst he
            rcases hlast with rfl | ⟨y, hy, hyn⟩
            · simp at hp
            · obtain ⟨ys, rfl⟩ := List.getLast?_eq_some_iff.1 hy
              rcases List.mem_append.1 hp with hp' | hp'
              · have h1 : ltP p y := (List.pairwise_append.1 rx).2.2 p hp' y (by simp)
                rcases hle y (by simp) p ((hmemx p).2 (.inl rfl)) with h2 | h2
                · exact (hyn h2).elim
                · exact (ltP_irrefl _ (ltP_trans h1 h2)).elim
              · simp only [List.mem_singleton] at hp'
                exact (hyn hp'.symm).elim
          · exact hlt
        · intro p hp q hq
          rcases List.mem_append.1 hp with hp | hp
          · exact hle p hp q ((hmemx q).2 (.inr hq))
          · simp only [List.mem_singleton] at hp
            subst hp
            exact hx q ((hmemx q).2 (.inr hq))
        · intro p
          rw [← hmem p, hmemx p]
          simp only [List.mem_append, List.mem_singleton, or_assoc]
      have drop : (∃ y, xs.getLast? = some y ∧ y = x) → ∀ wd, Ext w3 wd → ∃ ua ub us, SlG pcells w (.slice Aa' ya.length ca') ua ∧ SlG pcells w (.slice Ab' yb.length cb') ub ∧ wd.ownsRow w.heap.size 57 2 (.slice Ao xs.length co) us.length (us.flatMap pcells) ∧ Ext w wd ∧ Rising ua ∧ Rising ub ∧ Rising us ∧ (∀ p ∈ us, ∀ q, q ∈ ua ∨ q ∈ ub → leP p q) ∧ (∀ p, (p ∈ us ∨ p ∈ ua ∨ p ∈ ub) ↔ (p ∈ xa0 ∨ p ∈ xb0)) ∧ us.length + (ua.length + ub.length) ≤ xa0.length + xb0.length := by
        rintro ⟨y, hy, rfl⟩ wd ed
        have hyx : y ∈ xs := List.mem_of_getLast? hy
        refine ⟨ya, yb, xs, ha', hb', row_ext hr3 ed, he.trans (e3.trans ed), ra', rb', rx, fun p hp q hq => hle p hp q ((hmemx q).2 (.inr hq)), fun p => ?_, by omega⟩
        rw [← hmem p, hmemx p]
        constructor
        · rintro (h | h)
          · exact .inl h
          · exact .inr (.inr h)
        · rintro (h | rfl | h)
          · exact .inl h
          · exact .inl hyx
          · exact .inr h
      have hmeas : ∀ X : Prop, X → (X ∧ vlen (.slice Aa' ya.length ca') + vlen (.slice Ab' yb.length cb') < vlen (.slice Aa xa.length ca) + vlen (.slice Ab xb.length cb)) := fun X h => ⟨h, by simp only [vlen]; omega⟩
      by_cases hx0 : xs.length = 0
      · have hx0' : ((xs.length : Nat) : Int) = 0 := by omega
        simp (disch := omega) only [DRAWQ, SX, Nat.reduceAdd, hx0']
        rw [LA_57 (show cellsAt w3.drew w1.heap.size 0 2 = some (pcells x) from hxcell)]
        have := push (.inl (List.eq_nil_of_length_eq_zero hx0)) w3.drew (Ext.drew _)
        refine RUN_mono this fun v w5 h5 => RUN_mono h5 fun v w6 h6 => ?_
        exact hmeas _ h6
      · have hx0' : ¬ ((xs.length : Nat) : Int) = 0 := by omega
        obtain ⟨y, hy⟩ : ∃ y, xs.getLast? = some y := by
          cases h : xs.getLast? with
          | none => rw [List.getLast?_eq_none_iff] at h; subst h; simp at hx0
          | some y => exact ⟨y, rfl⟩
        obtain ⟨go, co', hgo, hgo1, hgo2⟩ := row_block hr3 (by omega)
        injection hgo with hgo _ hgo'
        subst hgo hgo'
        have hycell : cellsAt w3 go ((xs.length - 1) * 2) 2 = some (pcells y) := by
          have hl2 : (xs.flatMap pcells).length = xs.length * 2 := flatMap_len pcells_len xs
          have hg : xs[xs.length - 1]? = some y := by rw [← List.getLast?_eq_getElem?]; exact hy
          have hge := (List.getElem?_eq_some_iff.1 hg).2
          have k0 := hr3.cellAt ((xs.length - 1) * 2 + 0) (by omega)
          have k1 := hr3.cellAt ((xs.length - 1) * 2 + 1) (by omega)
          rw [flatMap_get pcells_len (by omega) (by omega), hge] at k0 k1
          simp only [cellsAt]
          rw [Nat.add_zero] at k0
          rw [k0, k1]
          rfl
        have hix : (((xs.length : Nat) : Int) - 1).toNat = xs.length - 1 := by omega
        simp (disch := omega) only [DRAWQ, SX, Nat.reduceAdd, hx0', hix]
        rw [RA_57 hycell, RA_57 hxcell]
        have hne : ∀ (ox oy : Operand) (K : Value → Prop), PURE Tryz.prog (BINS .neq 57 ox oy (.agg (pcells y).toArray) (.agg (pcells x).toArray)) K = K (.bool (!decide (y = x))) := by
          intro ox oy K
          have : (decide (y = x)) = (decide (y.1 = x.1) && (decide (y.2 = x.2) && true)) := by
            rw [Bool.and_true, ← Bool.decide_and, decide_eq_decide, Prod.ext_iff]
          rw [this]
          exact NE_57
        rw [hne]
        by_cases hyx : y = x
        · simp (disch := omega) only [SX, Nat.reduceAdd, hyx]
          exact hmeas _ (drop ⟨y, hy, hyx⟩ w3.drew (Ext.drew _))
        · simp (disch := omega) only [SX, Nat.reduceAdd, hyx]
          rw [LA_57 (show cellsAt w3.drew w1.heap.size 0 2 = some (pcells x) from hxcell)]
          have := push (.inr ⟨y, hy, hyx⟩) w3.drew (Ext.drew _)
          refine RUN_mono this fun v w5 h5 => RUN_mono h5 fun v w6 h6 => ?_
          exact hmeas _ h6
end
end Go.Proofs.YtgjfhmahiiokeaaGreat.Y
set_option linter.unusedVariables false
set_option linter.unusedSimpArgs false
set_option maxRecDepth 8000
namespace Go.Proofs.YtgjfhmahiiokeaaGreat.Y
open Go Go.Sx

theorem flat_take (l : List (Int × Int)) (m i : Nat) (u : Value) (h : ((l.take m).flatMap pcells)[i]? = some u) : (l.flatMap pcells)[i]? = some u := by
  have : l.flatMap pcells = (l.take m).flatMap pcells ++ (l.drop m).flatMap pcells := by rw [← List.flatMap_append, List.take_append_drop]
  rw [this, List.getElem?_append_left (List.getElem?_eq_some_iff.1 h).1]
  exact h
theorem flat_drop (l : List (Int × Int)) (m i : Nat) (u : Value) (hm : m ≤ l.length) (h : ((l.drop m).flatMap pcells)[i]? = some u) : (l.flatMap pcells)[m * 2 + i]? = some u := by
  have : l.flatMap pcells = (l.take m).flatMap pcells ++ (l.drop m).flatMap pcells := by rw [← List.flatMap_append, List.take_append_drop]
  have hl : ((l.take m).flatMap pcells).length = m * 2 := by rw [flatMap_len pcells_len, List.length_take]; congr 1; omega
  rw [this, List.getElem?_append_right (by omega), hl, show m * 2 + i - m * 2 = i by omega]
  exact h
theorem slP_take {w : World} {A : Option Addr} {n c : Nat} {l : List (Int × Int)} (h : SlG pcells w (.slice A n c) l) {m : Nat} (hm : m ≤ l.length) : SlG pcells w (.slice A m c) (l.take m) := by
  obtain ⟨A', c', he, hr, hc, hl⟩ := h
  injection he with e1 e2 e3
  subst e1 e3
  refine ⟨A, c, by rw [List.length_take]; congr 1; omega, ?_, by rw [List.length_take]; omega, by rw [List.length_take]; omega⟩
  rcases hr with hr | ⟨b, o, rfl, hr⟩
  · left
    have := flatMap_len pcells_len l
    rw [hr] at this
    have h0 : l = [] := List.eq_nil_of_length_eq_zero (by simp only [List.length_nil] at this; omega)
    rw [h0]; simp
  · exact .inr ⟨b, o, rfl, fun i v hi => hr i v (flat_take l m i v hi)⟩
theorem slP_drop {w : World} {A : Option Addr} {n c : Nat} {l : List (Int × Int)} (h : SlG pcells w (.slice A n c) l) {m : Nat} (hm : m ≤ l.length) : SlG pcells w (.slice (sub A c m 2) (n - m) (c - m)) (l.drop m) := by
  obtain ⟨A', c', he, hr, hc, hl⟩ := h
  injection he with e1 e2 e3
  subst e1 e2 e3
  exact ⟨_, _, by rw [List.length_drop], Rd_sub hr (by rw [flatMap_len pcells_len]; omega) _ (fun i u hu => flat_drop l m i u hm hu), by rw [List.length_drop]; omega, by rw [List.length_drop]; omega⟩

theorem pairs_Sort : ∀ (n : Nat) {w : World} {v : Value} {l : List (Int × Int)} (h : SlG pcells w v l) (hn : l.length ≤ n) (hl : l.length ≤ 2 ^ 39), RET Tryz.prog 55 [v] w fun v' w' => ∃ r, SlG pcells w' v' r ∧ Rising r ∧ (∀ p, p ∈ r ↔ p ∈ l) ∧ r.length ≤ l.length ∧ (∀ k, v'.ownBlock = some k → w.heap.size ≤ k ∧ k < w'.heap.size) ∧ Ext w w' := by
  intro n
  induction n with
  | zero =>
    intro w v l h hn hl
    obtain ⟨A, c, rfl⟩ := h.shape
    refine RET_by fun R k => ?_
    apply by_pairs_Sort
    unfold sh_pairs_Sort
    have h2 : ((l.length : Nat) : Int) < 2 := by omega
    simp (disch := omega) only [SX, Nat.reduceAdd, h2]
    refine CALL_of (slices_CloneP h (by omega)) ?_
    rintro v' w' ⟨hv, e, hf⟩
    have : l = [] := List.eq_nil_of_length_eq_zero (by omega)
    subst this
    exact k _ _ ⟨[], hv, List.Pairwise.nil, fun _ => Iff.rfl, Nat.le_refl _, hf, e⟩
  | succ n ih =>
    intro w v l h hn hl
    obtain ⟨A, c, rfl⟩ := h.shape
    refine RET_by fun R k => ?_
    apply by_pairs_Sort
    unfold sh_pairs_Sort
    by_cases h2 : l.length < 2
    · have h2' : ((l.length : Nat) : Int) < 2 := by omega
      simp (disch := omega) only [SX, Nat.reduceAdd, h2']
      refine CALL_of (slices_CloneP h (by omega)) ?_
      rintro v' w' ⟨hv, e, hf⟩
      refine k _ _ ⟨l, hv, ?_, fun _ => Iff.rfl, Nat.le_refl _, hf, e⟩
      match l, h2 with
      | [], _ => exact List.Pairwise.nil
      | [x], _ => exact List.pairwise_singleton _ _
    · have h2' : ¬ ((l.length : Nat) : Int) < 2 := by omega
      have hq : IntKind.i64.wrap (((l.length : Nat) : Int).tdiv 2) = ((l.length / 2 : Nat) : Int) := by
        rw [Int.tdiv_eq_ediv_of_nonneg (by omega)]
        simp [IntKind.wrap, IntKind.bits, IntKind.signed]; omega
      have hcl : l.length ≤ c := by obtain ⟨_, _, he, _, hc, _⟩ := id h; injection he with _ _ e3; omega
      simp (disch := omega) only [DRAWQ, SX, Nat.reduceAdd, h2', hq]
      have hd := h.ext (Ext.drew w)
      refine CALL_of (ih (slP_take hd (m := l.length / 2) (by omega)) (by rw [List.length_take]; omega) (by rw [List.length_take]; omega)) ?_
      rintro v1 w1 ⟨r1, s1, g1, m1, l1, f1, e1⟩
      refine CALL_of (ih ((slP_drop hd (m := l.length / 2) (by omega)).ext e1) (by rw [List.length_drop]; omega) (by rw [List.length_drop]; omega)) ?_
      rintro v2 w2 ⟨r2, s2, g2, m2, l2, f2, e2⟩
      rw [List.length_take] at l1
      rw [List.length_drop] at l2
      refine CALL_of (pairs_joined (s1.ext e2) s2 g1 g2 (by omega)) ?_
      rintro v3 w3 ⟨r, hr, gr, mr, lr, e3⟩
      have z1 : w.heap.size ≤ w1.heap.size := e1.size
      have z2 := e2.size
      refine k _ _ ⟨r, (SlG.of_row pcells_len (by omega) hr (by omega)).1, gr, fun p => ?_, by omega, fun k hk => by have := hr.lt k hk; omega, (Ext.drew w).trans (e1.trans (e2.trans e3))⟩
      rw [mr, m1, m2, ← List.mem_append, List.take_append_drop]
end Go.Proofs.YtgjfhmahiiokeaaGreat.Y
set_option linter.unusedVariables false
set_option linter.unusedSimpArgs false
set_option maxRecDepth 8000
namespace Go.Proofs.YtgjfhmahiiokeaaGreat.Y
open Go Go.Sx

/-! ### Two lists of pairs as one; the empty pieces -/
def emptL (n : Nat) : List (Int × Int) := (List.range n).map fun i : Nat => ((i : Int), (i : Int))
theorem emptL_succ (n : Nat) : emptL (n + 1) = emptL n ++ [((n : Int), (n : Int))] := by simp [emptL, List.range_succ]
theorem emptL_len (n : Nat) : (emptL n).length = n := by simp [emptL]
theorem emptL_mem (n : Nat) (p : Int × Int) : p ∈ emptL n ↔ ∃ i : Nat, i < n ∧ p = ((i : Int), (i : Int)) := by
  simp only [emptL, List.mem_map, List.mem_range]
  exact ⟨fun ⟨i, h, e⟩ => ⟨i, h, e.symm⟩, fun ⟨i, h, e⟩ => ⟨i, h, e.symm⟩⟩
theorem emptL_rising (n : Nat) : Rising (emptL n) := by
  induction n with
  | zero => exact List.Pairwise.nil
  | succ n ih =>
    rw [emptL_succ]
    unfold Rising
    rw [List.pairwise_append]
    refine ⟨ih, List.pairwise_singleton _ _, fun p hp q hq => ?_⟩
    obtain ⟨i, hi, rfl⟩ := (emptL_mem n p).1 hp
    simp only [List.mem_singleton] at hq
    subst hq
    left
    show (i : Int) < (n : Int)
    omega

/-- One pair more. -/
theorem PUSHP {w : World} {base : Nat} {v : Value} {xs : List (Int × Int)} (x : Int × Int) {K : Value → World → Prop} (hr : w.ownsRow base 57 2 v xs.length (xs.flatMap pcells)) (hb : base ≤ w.heap.size) (hn : xs.length + 1 ≤ 2 ^ 39)
    (k : ∀ v' w', w'.ownsRow base 57 2 v' (xs ++ [x]).length ((xs ++ [x]).flatMap pcells) → Chg (fun j => base ≤ j) w w' → K v' w') :
    RUN Tryz.prog (Instr.buildSlice 37 1 #[(0, .agg (pcells x).toArray)]) w fun u w => RUN Tryz.prog (Builtin.append_ #[37, 37] 37 #[v, u]) w K := by
  refine BS_37_1 fun w3 o3 e3 z3 => ?_
  obtain ⟨A, c, rfl, _⟩ := row_shape hr
  have hr3 := row_ext hr e3
  refine APPEND (by kernel_rfl) IN_57 rfl (by omega) hr3 (news := pcells x) rfl (fun q u hq => by rw [addr_add]; exact o3.cell (by simpa [pcells] using hq)) (by simp [pcells, Value.oneCell']) (by omega) (by unfold maxLen; omega) (by omega) (by omega) fun g cap w4 o4 c4 g4 => ?_
  exact k _ _ (by rw [List.flatMap_append, List.length_append]; simpa using o4) (e3.chg.then c4 (fun _ _ x => x) (fun q _ hq => row_base hr3 q hq))
theorem row_ext_of {w w1 w2 : World} (e : Ext w w1) (h : Chg (fun j => w.heap.size ≤ j) w1 w2) : Ext w w2 := e.ext_of h fun _ x => x

section
variable {w : World}

theorem pairs_Empties (n : Nat) (hn : n ≤ 2 ^ 38) : RET Tryz.prog 35 [.int .i64 n] w fun r w' => SlG pcells w' r (emptL (n + 1)) ∧ (∀ k, r.ownBlock = some k → w.heap.size ≤ k) ∧ Ext w w' := by
  refine RET_by fun R k => ?_
  apply by_pairs_Empties
  unfold sh_pairs_Empties
  refine ⟨fun ov iv w1 => ∃ i : Nat, iv = .int .i64 i ∧ i ≤ n + 1 ∧ w1.ownsRow w.heap.size 57 2 ov i ((emptL i).flatMap pcells) ∧ Ext w w1, fun _ iv _ => n + 1 - vnat iv, ⟨0, rfl, Nat.zero_le _, World.ownsRow_nil _ _ _ _, Ext.refl w⟩, ?_⟩
  rintro ov iv w1 ⟨i, rfl, hi, hr, e1⟩
  have z1 := e1.size
  by_cases hlt : i ≤ n
  · have hlt' : (i : Int) ≤ (n : Int) := by omega
    obtain ⟨A, c, rfl, _⟩ := row_shape hr
    simp (disch := omega) only [SX, Nat.reduceAdd, hlt']
    refine BS_37_1 fun w3 o3 e3 z3 => ?_
    have hr3 := row_ext hr e3
    refine APPEND (by kernel_rfl) IN_57 rfl (by omega) hr3 (news := pcells ((i : Int), (i : Int))) rfl (fun q u hq => by rw [addr_add]; exact o3.cell (by simpa [pcells] using hq)) (by simp [pcells, Value.oneCell']) (by omega) (by unfold maxLen; omega) (by omega) (by omega) fun g cap w4 o4 c4 g4 => ?_
    try simp (disch := omega) only [SX, Nat.reduceAdd]
    refine ⟨⟨i + 1, by simp, by omega, by rw [emptL_succ, List.flatMap_append]; simpa using o4, (e1.trans e3).ext_of c4 fun q hq => row_base hr3 q hq⟩, by simp only [vnat_int]; omega⟩
  · have hlt' : ¬ (i : Int) ≤ (n : Int) := by omega
    have hin : i = n + 1 := by omega
    subst hin
    simp (disch := omega) only [SX, Nat.reduceAdd, hlt']
    refine k _ _ ⟨(SlG.of_row pcells_len (by omega) hr (by rw [emptL_len]; omega)).1, fun q hq => row_base hr q hq.symm, e1⟩

theorem pairs_Merge {av bv : Value} {la lb : List (Int × Int)} (ha : SlG pcells w av la) (hb : SlG pcells w bv lb) (h1 : la.length ≤ 2 ^ 38) (h2 : lb.length ≤ 2 ^ 38) :
    RET Tryz.prog 34 [av, bv] w fun v w' => (∃ r, SlG pcells w' v r ∧ Rising r ∧ (∀ p, p ∈ r ↔ p ∈ la ∨ p ∈ lb) ∧ r.length ≤ la.length + lb.length) ∧ (∀ k, v.ownBlock = some k → w.heap.size ≤ k) ∧ Ext w w' := by
  refine RET_by fun R k => ?_
  apply by_pairs_Merge
  unfold sh_pairs_Merge
  refine CALL_of (pairs_Sort la.length ha (Nat.le_refl _) (by omega)) ?_
  rintro v1 w1 ⟨r1, s1, i1, m1, l1, _, e1⟩
  refine CALL_of (pairs_Sort lb.length (hb.ext e1) (Nat.le_refl _) (by omega)) ?_
  rintro v2 w2 ⟨r2, s2, i2, m2, l2, _, e2⟩
  refine CALL_of (pairs_joined (s1.ext e2) s2 i1 i2 (by omega)) ?_
  rintro v3 w3 ⟨r, hr, ir, mr, lr, e3⟩
  have z1 := e1.size
  have z2 := e2.size
  refine k _ _ ⟨⟨r, (SlG.of_row pcells_len (by omega) hr (by omega)).1, ir, fun p => by rw [mr, m1, m2], by omega⟩, fun q hq => by have := row_base hr q hq.symm; omega, e1.trans (e2.trans e3)⟩
end
end Go.Proofs.YtgjfhmahiiokeaaGreat.Y
