import Derived.Test.YtgjfhmahiiokeaaGreatMeter
set_option linter.unusedVariables false
set_option linter.unusedSimpArgs false
set_option linter.unusedVariables false
set_option linter.unusedSimpArgs false
set_option maxRecDepth 8000
namespace Go.Proofs.YtgjfhmahiiokeaaGreat.Y
open Go Go.Sx

section
variable {w : World} {o : Option Nat}

theorem quo_in {L W k s n : Nat} (hL : L = n * W) (hk : k < W) (hs : s < n) (hbig : L ≤ 2 ^ 40) : ∃ d : Int, IntKind.i64.wrap (((L : Int) - 1 - k).tdiv (W : Int)) = d ∧ ¬ d < (s : Int) := by
  refine ⟨_, rfl, ?_⟩
  have h1 : (s + 1) * W ≤ n * W := Nat.mul_le_mul_right _ hs
  rw [Nat.add_mul] at h1
  have h2 : 0 ≤ (L : Int) - 1 - k := by omega
  rw [Int.tdiv_eq_ediv_of_nonneg h2]
  have h3 : (s : Int) ≤ ((L : Int) - 1 - k) / (W : Int) := by
    rw [Int.le_ediv_iff_mul_le (by omega)]
    have : (s : Int) * (W : Int) = ((s * W : Nat) : Int) := by rw [Int.natCast_mul]
    omega
  have h4 : ((L : Int) - 1 - k) / (W : Int) ≤ (L : Int) - 1 - k := Int.ediv_le_self _ h2
  rw [show IntKind.i64.wrap (((L : Int) - 1 - k) / (W : Int)) = ((L : Int) - 1 - k) / (W : Int) by
    generalize ((L : Int) - 1 - k) / (W : Int) = q at *
    simp [IntKind.wrap, IntKind.bits, IntKind.signed]; omega]
  omega

theorem dense_look {W n c5 w6 n7 : Nat} {N : List Int} {cs : List Value} {nx : Value} (h5 : Own w c5 cs 101) (h6 : Own w w6 [.int .i64 W] 3) (h7 : Own w n7 [nx] 105) (hn : SlI w nx N) (hN : N.length = n * W) (hbig : N.length ≤ 2 ^ 40)
    {s : Int} {c : UInt8} {k : Nat} {x : Int} (hs : 0 ≤ s ∧ s < n) (hc : cs[c.toNat]? = some (.int .i64 k)) (hk : k < W) (hx : N[s.toNat * W + k]? = some x) :
    RET Tryz.prog 136 [.agg #[.int .i64 s, .int .u8 c.toNat], .pointer (some ⟨c5, 0, none⟩), .pointer (some ⟨w6, 0, none⟩), .pointer (some ⟨n7, 0, none⟩)] w fun v w' => v = .int .i64 x ∧ Ext w w' := by
  have hcl := c.toNat_lt
  obtain ⟨t, rfl⟩ : ∃ t : Nat, s = t := ⟨s.toNat, by omega⟩
  rw [Int.toNat_natCast] at hx
  have htn : t < n := by omega
  have h1 : (t + 1) * W ≤ n * W := Nat.mul_le_mul_right _ htn
  rw [Nat.add_mul] at h1
  obtain ⟨d, hd, hds⟩ := quo_in hN hk htn hbig
  obtain ⟨A, cc, rfl⟩ := hn.shape
  refine RET_by fun R k' => ?_
  apply by_meter_Meter_Dense_1
  unfold sh_meter_Meter_Dense_1
  refine BOXA (cs := [.int .i64 t, .int .u8 c.toNat]) fun w1 o1 e1 z1 => ?_
  have c5' := (h5.ext e1).cell hc
  have c6' := (h6.ext e1).cell (i := 0) rfl
  have c7' := (h7.ext e1).cell (i := 0) rfl
  simp (disch := omega) only [SX, Nat.reduceAdd, LD_5 (o1.cell (i := 1) rfl), LD_3 c5']
  refine ⟨fun w2 => w2 = w1.drew, ?_, ?_⟩
  · have b1 : ¬ (t : Int) < 0 := by omega
    have b2 : ¬ (k : Int) < 0 := by omega
    have b3 : ¬ (W : Int) ≤ (k : Int) := by omega
    have b4 : ¬ (N.length : Int) ≤ (k : Int) := by omega
    simp (disch := omega) only [DRAWQ, SX, Nat.reduceAdd, RD_3 (o1.cell (i := 0) rfl), RD_3 c6', RD_105 c7', b1, b2, b3, b4, hd, hds]
  · rintro _ rfl
    have o1' : Own w1.drew w.heap.size [.int .i64 t, .int .u8 c.toNat] 208 := o1
    have e1' : Ext w w1.drew := e1.trans (Ext.drew _)
    generalize w1.drew = w2 at *
    have c6' := (h6.ext e1').cell (i := 0) rfl
    have c7' := (h7.ext e1').cell (i := 0) rfl
    obtain ⟨bb, oo, cc', hv, hcell⟩ := (hn.ext e1').at (i := t * W + k) (by omega)
    injection hv with hA _ hcc
    subst hA hcc
    have hxe : N[t * W + k]'(by omega) = x := by
      rw [List.getElem?_eq_getElem (by omega)] at hx
      exact Option.some.inj hx
    rw [hxe] at hcell
    have hm : (t : Int) * (W : Int) = ((t * W : Nat) : Int) := by rw [Int.natCast_mul]
    have hm2 : ((t * W : Nat) : Int) + (k : Int) = ((t * W + k : Nat) : Int) := by omega
    have hjl : t * W + k < N.length := by omega
    clear hxe hx
    generalize t * W + k = j at *
    generalize t * W = j' at *
    simp (disch := omega) only [SX, Nat.reduceAdd, LD_3 (o1'.cell (i := 0) rfl), LD_3 c6', LD_105 c7', hm, hm2, LD_3 hcell]
    exact k' _ _ ⟨rfl, e1'⟩

theorem meter_Dense {W n : Nat} {N : List Int} {cs : List Value} {nx : Value} (hn : SlI w nx N) (hN : N.length = n * W) (hbig : N.length ≤ 2 ^ 40) (f : Int → UInt8 → Int) (kf : UInt8 → Nat)
    (hf : ∀ (s : Int) (c : UInt8), 0 ≤ s → s < n → cs[c.toNat]? = some (.int .i64 (kf c : Nat)) ∧ kf c < W ∧ N[s.toNat * W + kf c]? = some (f s c)) :
    RET Tryz.prog 134 [mV o, .agg cs.toArray, .int .i64 W, nx] w fun v w' => ∃ tb, v = .pointer (some ⟨tb, 0, none⟩) ∧ IsTable w' w.heap.size w'.heap.size tb o (fun s => 0 ≤ s ∧ s < n) f ∧ Ext w w' := by
  obtain ⟨A, cc, rfl⟩ := hn.shape
  refine RET_by fun R k => ?_
  apply by_meter_Meter_Dense
  unfold sh_meter_Meter_Dense
  refine BOXA fun w1 o1 e1 z1 => ?_
  refine BOX1 rfl fun w2 o2 e2 z2 => ?_
  refine BOX1 rfl fun w3 o3 e3 z3 => ?_
  have e03 := e1.trans (e2.trans e3)
  simp (disch := omega) only [SX, Nat.reduceAdd]
  rw [LD_105 (o3.cell (i := 0) rfl)]
  refine CALL_of (slices_CloneI (hn.ext e03) hbig) ?_
  rintro v w4 ⟨hv, e4, hfr⟩
  obtain ⟨A', c', rfl⟩ := hv.shape
  refine STORE SZ_105 (o3.ext e4) (by simp) rfl rfl fun w5 o5 c5 z5 => ?_
  rw [show ([.slice A N.length cc] : List Value).set 0 (.slice A' N.length c') = [.slice A' N.length c'] from rfl] at o5
  have o15 := ((o1.ext (e2.trans e3)).ext e4).chg c5 (by omega)
  have o25 := ((o2.ext e3).ext e4).chg c5 (by omega)
  have hv5 := hv.chg c5 (fun k hk => by have := hfr k hk; omega)
  have e05 : Ext w w5 := (e03.trans e4).ext_of c5 fun i hi => by omega
  have hm : mV o = .pointer (o.map fun b => ⟨b, 0, none⟩) := by cases o <;> rfl
  rw [hm]
  try simp (disch := omega) only [SX, Nat.reduceAdd]
  refine BOXA fun w6 o6 e6 z6 => k _ _ ⟨_, rfl, ⟨_, _, by rw [hm]; exact o6, ⟨e05.size, by omega, Nat.le_refl _⟩, fun w' hst hsz s c hs => ?_⟩, e05.trans e6⟩
  obtain ⟨f1, f2, f3⟩ := hf s c hs.1 hs.2
  have s4 := e4.size
  refine (dense_look (hst.own (o15.ext e6) (Nat.le_refl _) (by omega)) (hst.own (o25.ext e6) (by omega) (by omega)) (hst.own (o5.ext e6) (by omega) (by omega)) ?_ hN hbig hs f1 f2 f3).mono fun v w' h => h
  obtain ⟨A2, c2, he, hr, hlc⟩ := hv5.ext e6
  injection he with he1 he2 he3
  subst he1 he3
  refine ⟨_, _, rfl, ?_, hlc⟩
  rcases hr with hr | ⟨b, oo, hb, hr⟩
  · exact .inl hr
  · refine .inr ⟨b, oo, hb, fun i v hi => ?_⟩
    have hk := hfr b (by rw [hb]; rfl)
    rw [World.cell?_of_block (hst b (by have := e03.size; omega) (by omega))]
    exact hr i v hi
end
end Go.Proofs.YtgjfhmahiiokeaaGreat.Y
