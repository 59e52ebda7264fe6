import Derived.Test.YtopdjdkkhpkmiaaTwoB
set_option linter.unusedVariables false
set_option linter.unusedSimpArgs false
set_option maxRecDepth 8000
namespace Go.Proofs.Ytopdjdkkhpkmiaa.Y
open Go Go.Sx

/-! ### A search for one text -/
structure IsTwo (w : World) (lo hi b : Nat) (l : List UInt8) (cut per : Nat) (small : Bool) : Prop where
  ex : ∃ A c, Own w b [.slice A l.length c, .int .i64 cut, .int .i64 per, .bool small, .func (.func (if small then 64 else 63)) #[] #[]] 108 ∧ SlB w (.slice A l.length c) l ∧ (lo ≤ b ∧ b < hi) ∧ ∀ k, (Value.slice A l.length c).ownBlock = some k → lo ≤ k ∧ k < hi
  ok : FactorOK l cut per small
  ne : l ≠ []
theorem IsTwo.chg {S : Nat → Prop} {w w' : World} {lo hi b : Nat} {l : List UInt8} {cut per : Nat} {small : Bool} (h : IsTwo w lo hi b l cut per small) (hc : Chg S w w') (hs : ∀ i, S i → i < lo ∨ hi ≤ i) : IsTwo w' lo hi b l cut per small := by
  obtain ⟨⟨A, c, h1, h2, h3, h4⟩, h5, h6⟩ := h
  exact ⟨⟨A, c, h1.chg hc (fun hS => by have := hs _ hS; omega), h2.chg hc (fun k hk hS => by have := hs _ hS; have := h4 k hk; omega), h3, h4⟩, h5, h6⟩
theorem IsTwo.ext {w w' : World} {lo hi b : Nat} {l : List UInt8} {cut per : Nat} {small : Bool} (h : IsTwo w lo hi b l cut per small) (hc : Ext w w') : IsTwo w' lo hi b l cut per small := h.chg hc fun _ x => x.elim

section
variable {w : World} {lo hi b : Nat} {l : List UInt8} {cut per : Nat} {small : Bool}

theorem twoway_right {lv : Value} {line : List UInt8} (h : IsTwo w lo hi b l cut per small) (hlv : SlB w lv line) {a : Nat} (ha : a + l.length ≤ line.length) {fr : Nat} (hf : fr ≤ l.length) :
    RET Try.prog 92 [.pointer (some ⟨b, 0, none⟩), lv, .int .i64 a, .int .i64 fr] w fun v w' => (∃ i : Nat, v = .int .i64 i ∧ fr ≤ i ∧ i ≤ l.length ∧ (∀ j, fr ≤ j → j < i → fnb l j = fnb line (a + j)) ∧ (i < l.length → fnb l i ≠ fnb line (a + i))) ∧ Ext w w' := by
  have hll := hlv.len
  obtain ⟨Al, cl, rfl⟩ := hlv.shape
  refine RET_by fun R k => ?_
  apply by_twoway_Two_right
  unfold sh_twoway_Two_right
  refine ⟨fun iv w1 => ∃ i : Nat, iv = .int .i64 i ∧ fr ≤ i ∧ i ≤ l.length ∧ (∀ j, fr ≤ j → j < i → fnb l j = fnb line (a + j)) ∧ Ext w w1, fun iv _ => l.length - vnat iv, ⟨fr, rfl, Nat.le_refl _, hf, fun j h1 h2 => by omega, Ext.refl w⟩, ?_⟩
  rintro iv w1 ⟨i, rfl, h1, h2, h3, e1⟩
  obtain ⟨A, c, o1, s1, _, _⟩ := (h.ext e1).ex
  have hs := s1.len
  have e2 : Ext w w1.drew := e1.trans (Ext.drew _)
  by_cases hlt : i < l.length
  · have hlt' : (i : Int) < (l.length : Int) := by omega
    obtain ⟨b1, p1, c1, hv, hc1⟩ := s1.at hlt
    injection hv with hA _ hcc
    subst hA hcc
    obtain ⟨b2, p2, c2, hv2, hc2⟩ := (hlv.ext e1).at (i := a + i) (by omega)
    injection hv2 with hA2 _ hcc2
    subst hA2 hcc2
    have hai : (a : Int) + (i : Int) = ((a + i : Nat) : Int) := by omega
    have hfi := fnb_get hlt
    have hfa := fnb_get (l := line) (i := a + i) (by omega)
    have hb2 : a + i < line.length := by omega
    generalize l[i] = x at *
    generalize line[a + i] = y at *
    generalize hz : a + i = z at *
    simp (disch := omega) only [DRAWQ, SX, Nat.reduceAdd, RD_42 (o1.cell (i := 0) rfl), hlt', RD_5 hc1, hai, RD_5 hc2]
    by_cases hxy : x = y
    · subst hxy
      simp (disch := omega) only [SX, Nat.reduceAdd]
      refine ⟨⟨i + 1, by simp, by omega, by omega, fun j k1 k2 => ?_, e2⟩, by simp only [vnat_int]; omega⟩
      rcases Nat.lt_or_ge j i with hj | hj
      · exact h3 j k1 hj
      · obtain rfl : j = i := by omega
        rw [hz, hfi, hfa]
    · have hne : ¬ ((x.toNat : Nat) : Int) = ((y.toNat : Nat) : Int) := fun hh => hxy (u8_ext (by omega))
      simp (disch := omega) only [SX, Nat.reduceAdd, hne]
      exact k _ _ ⟨⟨i, rfl, h1, h2, h3, fun _ => by rw [hz, hfi, hfa]; exact hxy⟩, e2⟩
  · have hlt' : ¬ (i : Int) < (l.length : Int) := by omega
    simp (disch := omega) only [DRAWQ, SX, Nat.reduceAdd, RD_42 (o1.cell (i := 0) rfl), hlt']
    exact k _ _ ⟨⟨i, rfl, h1, h2, h3, fun hx => (hlt hx).elim⟩, e2⟩

theorem twoway_left {lv : Value} {line : List UInt8} (h : IsTwo w lo hi b l cut per small) (hlv : SlB w lv line) {a : Nat} (ha : a + l.length ≤ line.length) (dn : Nat) :
    RET Try.prog 93 [.pointer (some ⟨b, 0, none⟩), lv, .int .i64 a, .int .i64 dn] w fun v w' => (∃ r : Bool, v = .bool r ∧ (r = true ↔ ∀ j, dn ≤ j → j < cut → fnb l j = fnb line (a + j))) ∧ Ext w w' := by
  have hll := hlv.len
  have hcut := h.ok.inn
  obtain ⟨Al, cl, rfl⟩ := hlv.shape
  obtain ⟨A0, c0, o0, s0, _, _⟩ := h.ex
  have hs := s0.len
  refine RET_by fun R k => ?_
  apply by_twoway_Two_left
  unfold sh_twoway_Two_left
  simp (disch := omega) only [SX, Nat.reduceAdd, Nat.zero_add, LD_3 (o0.cell (i := 1) rfl)]
  refine ⟨fun iv w1 => ∃ i : Nat, iv = .int .i64 ((i : Int) - 1) ∧ i ≤ cut ∧ (∀ j, i ≤ j → j < cut → fnb l j = fnb line (a + j)) ∧ Ext w w1, fun iv _ => match iv with | .int _ x => (x + 1).toNat | _ => 0, ⟨cut, rfl, Nat.le_refl _, fun j h1 h2 => by omega, Ext.refl w⟩, ?_⟩
  rintro iv w1 ⟨i, rfl, h2, h3, e1⟩
  obtain ⟨A, c, o1, s1, _, _⟩ := (h.ext e1).ex
  have e2 : Ext w w1.drew := e1.trans (Ext.drew _)
  by_cases hlt : dn + 1 ≤ i
  · have hlt' : (dn : Int) ≤ (i : Int) - 1 := by omega
    obtain ⟨u, rfl⟩ : ∃ u, i = u + 1 := ⟨i - 1, by omega⟩
    have hu : (((u + 1 : Nat) : Int)) - 1 = (u : Int) := by omega
    rw [hu] at hlt' ⊢
    obtain ⟨b1, p1, c1, hv, hc1⟩ := s1.at (i := u) (by omega)
    injection hv with hA _ hcc
    subst hA hcc
    obtain ⟨b2, p2, c2, hv2, hc2⟩ := (hlv.ext e1).at (i := a + u) (by omega)
    injection hv2 with hA2 _ hcc2
    subst hA2 hcc2
    have hai : (a : Int) + (u : Int) = ((a + u : Nat) : Int) := by omega
    have hfi := fnb_get (l := l) (i := u) (by omega)
    have hfa := fnb_get (l := line) (i := a + u) (by omega)
    have hb2 : a + u < line.length := by omega
    have hb1 : u < l.length := by omega
    generalize l[u] = x at *
    generalize line[a + u] = y at *
    generalize hz : a + u = z at *
    simp (disch := omega) only [DRAWQ, SX, Nat.reduceAdd, RD_42 (o1.cell (i := 0) rfl), hlt', RD_5 hc1, hai, RD_5 hc2]
    by_cases hxy : x = y
    · subst hxy
      simp (disch := omega) only [SX, Nat.reduceAdd]
      refine ⟨⟨u, rfl, by omega, fun j k1 k2 => ?_, e2⟩, by show ((u : Int) - 1 + 1).toNat < ((u : Int) + 1).toNat; omega⟩
      rcases Nat.lt_or_ge u j with hj | hj
      · exact h3 j hj k2
      · obtain rfl : j = u := by omega
        rw [hz, hfi, hfa]
    · have hne : ¬ ((x.toNat : Nat) : Int) = ((y.toNat : Nat) : Int) := fun hh => hxy (u8_ext (by omega))
      simp (disch := omega) only [SX, Nat.reduceAdd, hne]
      refine k _ _ ⟨⟨false, rfl, ?_⟩, e2⟩
      simp only [Bool.false_eq_true, false_iff]
      intro hall
      have := hall u (by omega) (by omega)
      rw [hz, hfi, hfa] at this
      exact hxy this
  · have hlt' : ¬ (dn : Int) ≤ (i : Int) - 1 := by omega
    simp (disch := omega) only [SX, Nat.reduceAdd, hlt']
    refine k _ _ ⟨⟨true, rfl, ?_⟩, e1⟩
    simp only [true_iff]
    exact fun j k1 k2 => h3 j (by omega) k2

/-- What a search finds: the first place, from one on. -/
def FirstAt (l line : List UInt8) (fr : Nat) (v : Value) : Prop := (∃ a : Nat, v = .int .i64 a ∧ fr ≤ a ∧ occF l line a ∧ ∀ s, fr ≤ s → s < a → ¬ occF l line s) ∨ (v = .int .i64 (-1) ∧ ∀ s, fr ≤ s → ¬ occF l line s)

theorem occ_split {line : List UInt8} {a : Nat} (ha : a + l.length ≤ line.length) (hr : ∀ j, cut ≤ j → j < l.length → fnb l j = fnb line (a + j)) : occF l line a ↔ ∀ j, j < cut → j < l.length → fnb l j = fnb line (a + j) := by
  constructor
  · rintro ⟨_, h⟩ j _ hj; exact h j hj
  · intro h
    refine ⟨ha, fun j hj => ?_⟩
    rcases Nat.lt_or_ge j cut with hl | hl
    · exact h j hl hj
    · exact hr j hl hj

theorem twoway_plain {lv : Value} {line : List UInt8} (h : IsTwo w lo hi b l cut per small) (hlv : SlB w lv line) (hbig : line.length ≤ 2 ^ 40) (fr : Nat) (hfr : fr ≤ line.length) :
    RET Try.prog 63 [.pointer (some ⟨b, 0, none⟩), lv, .int .i64 fr] w fun v w' => FirstAt l line fr v ∧ Ext w w' := by
  have hok := h.ok
  have hcut := hok.inn
  have hp0 := hok.p0
  have hpn := hok.pn
  obtain ⟨Al, cl, rfl⟩ := hlv.shape
  refine RET_by fun R k => ?_
  apply by_twoway_Two_plain
  unfold sh_twoway_Two_plain
  refine ⟨fun av w1 => ∃ a : Nat, av = .int .i64 a ∧ fr ≤ a ∧ a ≤ line.length + 1 ∧ (∀ s, fr ≤ s → s < a → ¬ occF l line s) ∧ Ext w w1, fun av _ => line.length + 2 - vnat av, ⟨fr, rfl, Nat.le_refl _, by omega, fun s h1 h2 => by omega, Ext.refl w⟩, ?_⟩
  rintro av w1 ⟨a, rfl, h1, h2, h3, e1⟩
  have t1 := h.ext e1
  obtain ⟨A, c, o1, s1, _, _⟩ := id t1.ex
  have hs := s1.len
  by_cases hin : a + l.length ≤ line.length
  · have hin' : (a : Int) + (l.length : Int) ≤ (line.length : Int) := by omega
    simp (disch := omega) only [SX, Nat.reduceAdd, LD_42 (o1.cell (i := 0) rfl), hin', LD_3 (o1.cell (i := 1) rfl)]
    refine CALL_of (twoway_right t1 (hlv.ext e1) hin (Nat.le_of_lt hcut)) ?_
    rintro v w2 ⟨⟨i, rfl, r1, r2, r3, r4⟩, e2⟩
    have o2 := o1.ext e2
    by_cases hil : i < l.length
    · have hil' : (i : Int) < (l.length : Int) := by omega
      simp (disch := omega) only [SX, Nat.reduceAdd, LD_42 (o2.cell (i := 0) rfl), hil', LD_3 (o2.cell (i := 1) rfl)]
      refine ⟨⟨a + (i - cut + 1), vi (by omega), by omega, by omega, fun s k1 k2 => ?_, e1.trans e2⟩, by simp only [vnat_int]; omega⟩
      rcases Nat.lt_or_ge s a with hsa | hsa
      · exact h3 s k1 hsa
      · by_cases hsa' : s = a
        · subst hsa'
          intro ho
          exact r4 hil (ho.2 i hil)
        · have := shift_right hok (a := a) (i := i) (s := s - a) hil r3 (r4 hil) (by omega) (by omega)
          rwa [show a + (s - a) = s by omega] at this
    · have hil' : ¬ (i : Int) < (l.length : Int) := by omega
      obtain rfl : i = l.length := by omega
      simp (disch := omega) only [SX, Nat.reduceAdd, LD_42 (o2.cell (i := 0) rfl), hil']
      refine CALL_of (twoway_left (t1.ext e2) (hlv.ext (e1.trans e2)) hin 0) ?_
      rintro v w3 ⟨⟨r, rfl, hr⟩, e3⟩
      have hsp := occ_split hin r3
      cases r with
      | true =>
        simp (disch := omega) only [SX, Nat.reduceAdd]
        refine k _ _ ⟨.inl ⟨a, rfl, h1, hsp.2 fun j k1 k2 => hr.1 rfl j (Nat.zero_le _) k1, h3⟩, e1.trans (e2.trans e3)⟩
      | false =>
        have o3 := o2.ext e3
        simp (disch := omega) only [SX, Nat.reduceAdd, LD_3 (o3.cell (i := 2) rfl)]
        refine ⟨⟨a + per, vi (by omega), by omega, by omega, fun s k1 k2 => ?_, e1.trans (e2.trans e3)⟩, by simp only [vnat_int]; omega⟩
        rcases Nat.lt_or_ge s a with hsa | hsa
        · exact h3 s k1 hsa
        · by_cases hsa' : s = a
          · subst hsa'
            intro ho
            have := hr.2 fun j _ k2 => hsp.1 ho j k2 (by omega)
            cases this
          · have := shift_whole hok (a := a) (s := s - a) r3 (by omega) (by omega)
            rwa [show a + (s - a) = s by omega] at this
  · have hin' : ¬ (a : Int) + (l.length : Int) ≤ (line.length : Int) := by omega
    simp (disch := omega) only [SX, Nat.reduceAdd, LD_42 (o1.cell (i := 0) rfl), hin']
    refine k _ _ ⟨.inr ⟨rfl, fun s k1 => ?_⟩, e1⟩
    rcases Nat.lt_or_ge s a with hsa | hsa
    · exact h3 s k1 hsa
    · rintro ⟨ho, _⟩; omega

theorem twoway_lapped {lv : Value} {line : List UInt8} (h : IsTwo w lo hi b l cut per true) (hlv : SlB w lv line) (hbig : line.length ≤ 2 ^ 40) (fr : Nat) (hfr : fr ≤ line.length) :
    RET Try.prog 64 [.pointer (some ⟨b, 0, none⟩), lv, .int .i64 fr] w fun v w' => FirstAt l line fr v ∧ Ext w w' := by
  have hok := h.ok
  have hcut := hok.inn
  have hp0 := hok.p0
  obtain ⟨hper, hpn⟩ := hok.small rfl
  have hcp := (hok.rep per hp0 fun j _ _ k3 k4 => hper j k4 k3).1
  obtain ⟨Al, cl, rfl⟩ := hlv.shape
  refine RET_by fun R k => ?_
  apply by_twoway_Two_lapped
  unfold sh_twoway_Two_lapped
  refine ⟨fun av kv w1 => ∃ a n : Nat, av = .int .i64 a ∧ kv = .int .i64 n ∧ fr ≤ a ∧ a ≤ line.length + 1 ∧ n ≤ l.length ∧ (∀ j, j < n → fnb l j = fnb line (a + j)) ∧ (∀ s, fr ≤ s → s < a → ¬ occF l line s) ∧ Ext w w1, fun av _ _ => line.length + 2 - vnat av, ⟨fr, 0, rfl, rfl, Nat.le_refl _, by omega, Nat.zero_le _, fun j hj => by omega, fun s h1 h2 => by omega, Ext.refl w⟩, ?_⟩
  rintro av kv w1 ⟨a, n, rfl, rfl, h1, h2, hn, hkn, h3, e1⟩
  have t1 := h.ext e1
  obtain ⟨A, c, o1, s1, _, _⟩ := id t1.ex
  have hs := s1.len
  by_cases hin : a + l.length ≤ line.length
  · have hin' : (a : Int) + (l.length : Int) ≤ (line.length : Int) := by omega
    have hmax : max (cut : Int) (n : Int) = ((max cut n : Nat) : Int) := by omega
    simp (disch := omega) only [SX, Nat.reduceAdd, LD_42 (o1.cell (i := 0) rfl), hin', LD_3 (o1.cell (i := 1) rfl), hmax]
    refine CALL_of (twoway_right t1 (hlv.ext e1) hin (fr := max cut n) (by omega)) ?_
    rintro v w2 ⟨⟨i, rfl, r1, r2, r3', r4⟩, e2⟩
    have r3 : ∀ j, cut ≤ j → j < i → fnb l j = fnb line (a + j) := fun j k1 k2 => by
      rcases Nat.lt_or_ge j n with hj | hj
      · exact hkn j hj
      · exact r3' j (by omega) k2
    have o2 := o1.ext e2
    by_cases hil : i < l.length
    · have hil' : (i : Int) < (l.length : Int) := by omega
      simp (disch := omega) only [SX, Nat.reduceAdd, LD_42 (o2.cell (i := 0) rfl), hil', LD_3 (o2.cell (i := 1) rfl)]
      refine ⟨⟨a + (i - cut + 1), 0, vi (by omega), rfl, by omega, by omega, Nat.zero_le _, fun j hj => by omega, fun s k1 k2 => ?_, e1.trans e2⟩, by simp only [vnat_int]; omega⟩
      rcases Nat.lt_or_ge s a with hsa | hsa
      · exact h3 s k1 hsa
      · by_cases hsa' : s = a
        · subst hsa'
          intro ho
          exact r4 hil (ho.2 i hil)
        · have := shift_right hok (a := a) (i := i) (s := s - a) hil r3 (r4 hil) (by omega) (by omega)
          rwa [show a + (s - a) = s by omega] at this
    · have hil' : ¬ (i : Int) < (l.length : Int) := by omega
      obtain rfl : i = l.length := by omega
      simp (disch := omega) only [SX, Nat.reduceAdd, LD_42 (o2.cell (i := 0) rfl), hil']
      refine CALL_of (twoway_left (t1.ext e2) (hlv.ext (e1.trans e2)) hin n) ?_
      rintro v w3 ⟨⟨r, rfl, hr⟩, e3⟩
      have hsp := occ_split hin r3
      cases r with
      | true =>
        simp (disch := omega) only [SX, Nat.reduceAdd]
        refine k _ _ ⟨.inl ⟨a, rfl, h1, hsp.2 fun j k1 k2 => ?_, h3⟩, e1.trans (e2.trans e3)⟩
        rcases Nat.lt_or_ge j n with hj | hj
        · exact hkn j hj
        · exact hr.1 rfl j hj k1
      | false =>
        have o3 := o2.ext e3
        simp (disch := omega) only [SX, Nat.reduceAdd, DRAWQ, LD_3 (o3.cell (i := 2) rfl), RD_3 (o3.cell (i := 2) rfl), RD_42 (o3.cell (i := 0) rfl)]
        refine ⟨⟨a + per, l.length - per, vi (by omega), vi (by omega), by omega, by omega, by omega, fun j hj => ?_, fun s k1 k2 => ?_, e1.trans (e2.trans (e3.trans (Ext.drew _)))⟩, by simp only [vnat_int]; omega⟩
        · have q1 := r3 (per + j) (by omega) (by omega)
          have q2 := hper (per + j) (by omega) (by omega)
          rw [show per + j - per = j by omega] at q2
          rw [← q2, q1]
          congr 1
          omega
        · rcases Nat.lt_or_ge s a with hsa | hsa
          · exact h3 s k1 hsa
          · by_cases hsa' : s = a
            · subst hsa'
              intro ho
              have := hr.2 fun j _ k2 => hsp.1 ho j k2 (by omega)
              cases this
            · have := shift_whole hok (a := a) (s := s - a) r3 (by omega) (by omega)
              rwa [show a + (s - a) = s by omega] at this
  · have hin' : ¬ (a : Int) + (l.length : Int) ≤ (line.length : Int) := by omega
    simp (disch := omega) only [SX, Nat.reduceAdd, LD_42 (o1.cell (i := 0) rfl), hin']
    refine k _ _ ⟨.inr ⟨rfl, fun s k1 => ?_⟩, e1⟩
    rcases Nat.lt_or_ge s a with hsa | hsa
    · exact h3 s k1 hsa
    · rintro ⟨ho, _⟩; omega

theorem twoway_Next {lv : Value} {line : List UInt8} (h : IsTwo w lo hi b l cut per small) (hlv : SlB w lv line) (hbig : line.length ≤ 2 ^ 40) (fr : Nat) :
    RET Try.prog 60 [.pointer (some ⟨b, 0, none⟩), lv, .int .i64 fr] w fun v w' => FirstAt l line fr v ∧ Ext w w' := by
  have hne : 0 < l.length := List.length_pos_iff.2 h.ne
  have hlv' := hlv
  obtain ⟨Al, cl, rfl⟩ := hlv.shape
  refine RET_by fun R k => ?_
  apply by_twoway_Two_Next
  unfold sh_twoway_Two_Next
  by_cases hfr : fr ≤ line.length
  · refine ⟨fun w1 => w1 = w, ?_, ?_⟩
    · simp (disch := omega) only [SX, Nat.reduceAdd, show ¬ (line.length : Int) < (fr : Int) by omega]
    rintro _ rfl
    rename_i w
    obtain ⟨A, c, o1, s1, _, _⟩ := id h.ex
    have hmax : max (fr : Int) 0 = (fr : Int) := by omega
    simp (disch := omega) only [SX, Nat.reduceAdd, LD_106 (o1.cell (i := 4) rfl), hmax]
    cases small with
    | true => exact CALLV_of (first := #[]) (captured := #[]) (twoway_lapped h hlv' hbig fr hfr) fun v w' hv => k _ _ hv
    | false => exact CALLV_of (first := #[]) (captured := #[]) (twoway_plain h hlv' hbig fr hfr) fun v w' hv => k _ _ hv
  · refine ⟨fun _ => False, ?_, fun _ h => h.elim⟩
    simp (disch := omega) only [SX, Nat.reduceAdd, show (line.length : Int) < (fr : Int) by omega]
    exact k _ _ ⟨.inr ⟨rfl, fun s k1 => by rintro ⟨ho, _⟩; omega⟩, Ext.refl w⟩

def occB (l line : List UInt8) (a : Nat) : Bool := decide (a + l.length ≤ line.length) && (List.range l.length).all fun j => decide (fnb l j = fnb line (a + j))
theorem occB_iff {line : List UInt8} {a : Nat} : occB l line a = true ↔ occF l line a := by
  simp only [occB, occF, Bool.and_eq_true, decide_eq_true_eq, List.all_eq_true, List.mem_range]
/-- The places of a text ahead of a place. -/
def occs (l line : List UInt8) (k : Nat) : List (Int × Int) := ((List.range k).filter (occB l line)).map fun (a : Nat) => ((a : Int), ((a + l.length : Nat) : Int))
theorem occs_skip {line : List UInt8} {k m : Nat} (hkm : k ≤ m) (h : ∀ s, k ≤ s → s < m → ¬ occF l line s) : occs l line m = occs l line k := by
  induction m with
  | zero => obtain rfl : k = 0 := by omega
            rfl
  | succ m ih =>
    by_cases hk : k = m + 1
    · subst hk; rfl
    · rw [← ih (by omega) (fun s h1 h2 => h s h1 (by omega))]
      have : occB l line m = false := by
        cases hb : occB l line m with
        | false => rfl
        | true => exact (h m (by omega) (by omega) (occB_iff.1 hb)).elim
      simp [occs, List.range_succ, this]
theorem occs_hit {line : List UInt8} {a : Nat} (h : occF l line a) : occs l line (a + 1) = occs l line a ++ [((a : Int), ((a + l.length : Nat) : Int))] := by
  have : occB l line a = true := occB_iff.2 h
  simp [occs, List.range_succ, this]
theorem occs_rising (line : List UInt8) (k : Nat) : Rising (occs l line k) := by
  unfold Rising occs
  rw [List.pairwise_map]
  refine List.Pairwise.filter _ ?_
  refine List.pairwise_lt_range.imp ?_
  intro a b hab
  exact .inl (by simp only; omega)
theorem occs_mem {line : List UInt8} (hl : l ≠ []) (p : Int × Int) : p ∈ occs l line (line.length + 1) ↔ IsOcc [l] line p := by
  unfold occs IsOcc
  simp only [List.mem_map, List.mem_filter, List.mem_range, List.mem_singleton, occB_iff]
  constructor
  · rintro ⟨a, ⟨h1, h2⟩, rfl⟩
    exact ⟨l, rfl, hl, a, (occF_iff hl).1 h2, rfl⟩
  · rintro ⟨t, rfl, _, a, h2, rfl⟩
    have := (occF_iff hl).2 h2
    exact ⟨a, ⟨by have := this.1; omega, this⟩, rfl⟩
theorem occs_len (line : List UInt8) (k : Nat) : (occs l line k).length ≤ k := by
  unfold occs
  rw [List.length_map]
  exact Nat.le_trans (List.length_filter_le _ _) (by simp)

theorem twoway_Scan {lv : Value} {line : List UInt8} (h : IsTwo w lo hi b l cut per small) (hlv : SlB w lv line) (hbig : line.length ≤ 2 ^ 39) :
    RET Try.prog 31 [.pointer (some ⟨b, 0, none⟩), lv] w fun v w' => SlG pcells w' v (occs l line (line.length + 1)) ∧ (∀ k, v.ownBlock = some k → w.heap.size ≤ k) ∧ Ext w w' := by
  have hne : 0 < l.length := List.length_pos_iff.2 h.ne
  refine RET_by fun R k => ?_
  apply by_twoway_Two_Scan
  unfold sh_twoway_Two_Scan
  refine CALL_of (twoway_Next h hlv (by omega) 0) ?_
  rintro v w1 ⟨hv, e1⟩
  refine ⟨fun out av w2 => ∃ (fr m : Nat), FirstAt l line fr av ∧ fr ≤ line.length + 1 ∧ w2.ownsRow w.heap.size 69 2 out m ((occs l line fr).flatMap pcells) ∧ Ext w w2 ∧ m ≤ fr, fun _ av _ => match av with | .int _ x => if 0 ≤ x then line.length + 2 - x.toNat else 0 | _ => 0, ⟨0, 0, hv, by omega, World.ownsRow_nil _ _ _ _, e1, Nat.le_refl _⟩, ?_⟩
  rintro out av w2 ⟨fr, m, hv2, hfr, hr, e2, hm⟩
  have hmf : m = (occs l line fr).length := by have := hr.1; rw [flatMap_len pcells_len] at this; omega
  rcases hv2 with ⟨a, rfl, ha, hocc, hno⟩ | ⟨rfl, hno⟩
  · have hal := hocc.1
    obtain ⟨A, c, o1, s1, _, _⟩ := id (h.ext e2).ex
    have hs := s1.len
    simp (disch := omega) only [SX, Nat.reduceAdd, show (0 : Int) ≤ (a : Int) by omega, LD_42 (o1.cell (i := 0) rfl)]
    refine BS_49_1 fun w3 o3 e3 z3 => ?_
    obtain ⟨Ao, co, rfl, _⟩ := row_shape hr
    have hr3 := row_ext hr e3
    have z1 := e2.size
    refine APPEND (by kernel_rfl) IN_69 rfl (by omega) hr3 (news := [.int .i64 (a : Int), .int .i64 ((a : Int) + (l.length : Int))]) rfl (fun q u hq => by rw [addr_add]; exact o3.cell (by simpa using hq)) (by simp [Value.oneCell']) (by omega) (by unfold maxLen; omega) (by omega) (by have := e3.size; omega) fun g cap w4 o4 c4 g4 => ?_
    have ha1 : (a : Int) + 1 = ((a + 1 : Nat) : Int) := by omega
    try simp (disch := omega) only [SX, Nat.reduceAdd, ha1]
    have e4 : Ext w w4 := (e2.trans e3).ext_of c4 fun q hq => row_base hr3 q hq
    refine CALL_of (twoway_Next (h.ext e4) (hlv.ext e4) (by omega) (a + 1)) ?_
    rintro v w5 ⟨hv5, e5⟩
    refine ⟨⟨a + 1, m + 1, hv5, by omega, ?_, e4.trans e5, by omega⟩, ?_⟩
    · have := row_ext o4 e5
      rw [occs_hit hocc, occs_skip (k := fr) ha hno, List.flatMap_append]
      have e : (a : Int) + (l.length : Int) = ((a + l.length : Nat) : Int) := by omega
      rw [e] at this
      simpa [pcells] using this
    · rcases hv5 with ⟨a', rfl, h1, h2, _⟩ | ⟨rfl, _⟩
      · have := h2.1
        show (if (0 : Int) ≤ (a' : Int) then line.length + 2 - ((a' : Int)).toNat else 0) < (if (0 : Int) ≤ (a : Int) then line.length + 2 - ((a : Int)).toNat else 0)
        rw [if_pos (by omega), if_pos (by omega)]
        omega
      · show (if (0 : Int) ≤ (-1 : Int) then line.length + 2 - ((-1 : Int)).toNat else 0) < (if (0 : Int) ≤ (a : Int) then line.length + 2 - ((a : Int)).toNat else 0)
        rw [if_neg (by omega), if_pos (by omega)]
        omega
  · simp (disch := omega) only [SX, Nat.reduceAdd, show ¬ (0 : Int) ≤ (-1 : Int) by omega]
    have hfull : occs l line (line.length + 1) = occs l line fr := occs_skip hfr fun s h1 _ => hno s h1
    rw [← hfull] at hr
    have z1 := e1.size
    have hol := occs_len (l := l) line (line.length + 1)
    refine k _ _ ⟨(SlG.of_row pcells_len (by omega) hr (by omega)).1, fun q hq => by have := row_base hr q hq.symm; omega, e2⟩

theorem twoway_New {bv : Value} (hb : SlB w bv l) (hl : l ≠ []) (hs : l.length ≤ 2 ^ 40) : RET Try.prog 29 [bv] w fun v w' => (∃ (b cut per : Nat) (small : Bool), v = .tuple #[.pointer (some ⟨b, 0, none⟩), .int .i64 0] ∧ IsTwo w' w.heap.size w'.heap.size b l cut per small) ∧ Ext w w' := by
  have hpos : 0 < l.length := List.length_pos_iff.2 hl
  have hb' := hb
  obtain ⟨A0, c0, rfl⟩ := hb.shape
  refine RET_by fun R k => ?_
  apply by_twoway_New
  unfold sh_twoway_New
  simp (disch := omega) only [SX, Nat.reduceAdd, show ¬ (l.length : Int) = 0 by omega]
  refine CALL_of (slices_CloneB hb') ?_
  rintro v w1 ⟨hv, e1, hfr⟩
  refine CALL_of (critical_Factor (hb'.ext e1) hl hs) ?_
  rintro v2 w2 ⟨⟨cut, per, sm, rfl, hok⟩, e2⟩
  obtain ⟨A, c, rfl⟩ := hv.shape
  simp (disch := omega) only [SX, Nat.reduceAdd]
  refine BOXA fun w3 o3 e3 z3 => ?_
  simp (disch := omega) only [SX, Nat.reduceAdd, LD_4 (o3.cell (i := 3) rfl)]
  have z2 := e2.size
  have z1 := e1.size
  have hfr' : ∀ k, (Value.slice A l.length c).ownBlock = some k → w.heap.size ≤ k ∧ k < w3.heap.size := fun k hk => by have := hfr k hk; omega
  cases sm with
  | true =>
    simp (disch := omega) only [SX, Nat.reduceAdd]
    refine STORE SZ_106 o3 (by simp) rfl rfl fun w4 o4 c4 z4 => ?_
    try simp (disch := omega) only [SX, Nat.reduceAdd]
    refine k _ _ ⟨⟨_, cut, per, true, rfl, ⟨A, c, o4, ((hv.ext e2).ext e3).chg c4 (fun k hk => by have := hfr k hk; omega), by omega, fun k hk => by have := hfr' k hk; omega⟩, hok, hl⟩, (e1.trans (e2.trans e3)).ext_of c4 fun i hi => by omega⟩
  | false =>
    simp (disch := omega) only [SX, Nat.reduceAdd]
    refine k _ _ ⟨⟨_, cut, per, false, rfl, ⟨A, c, o3, (hv.ext e2).ext e3, by omega, fun k hk => by have := hfr' k hk; omega⟩, hok, hl⟩, e1.trans (e2.trans e3)⟩

theorem twoway_New_nil {bv : Value} (hb : SlB w bv []) : RET Try.prog 29 [bv] w fun v w' => v = .tuple #[.pointer none, .int .i64 1] ∧ Ext w w' := by
  obtain ⟨A0, c0, rfl⟩ := hb.shape
  refine RET_by fun R k => ?_
  apply by_twoway_New
  unfold sh_twoway_New
  simp (disch := omega) only [SX, Nat.reduceAdd, List.length_nil, Int.natCast_zero]
  exact k _ _ ⟨rfl, Ext.refl w⟩
end
end Go.Proofs.Ytopdjdkkhpkmiaa.Y
