import Derived.Test.YtgjfhmahiiokeaaGreatLinks
set_option linter.unusedVariables false
set_option linter.unusedSimpArgs false
set_option linter.unusedVariables false
set_option linter.unusedSimpArgs false
set_option maxRecDepth 8000
namespace Go.Proofs.YtgjfhmahiiokeaaGreat.Y
open Go Go.Sx

theorem IsLinks.own {w : World} {lo hi b : Nat} {F O W Q : List Int} (h : IsLinks w lo hi b F O W Q) : ∃ fb ob wb, w.cell? ⟨b, 0, none⟩ = some (.slice (some ⟨fb, 0, none⟩) F.length F.length) ∧ w.cell? ⟨b, 1, none⟩ = some (.slice (some ⟨ob, 0, none⟩) F.length F.length) ∧ w.cell? ⟨b, 2, none⟩ = some (.slice (some ⟨wb, 0, none⟩) F.length F.length) ∧
    Own w fb (F.map vI) 3 ∧ Own w ob (O.map vI) 3 ∧ Own w wb (W.map vI) 3 ∧ (lo ≤ fb ∧ fb < hi ∧ lo ≤ ob ∧ ob < hi ∧ lo ≤ wb ∧ wb < hi) ∧
    (∀ w' i x, Own w' fb ((F.map vI).set i (.int .i64 x)) 3 → Chg (fun k => k = fb) w w' → IsLinks w' lo hi b (F.set i x) O W Q) ∧
    (∀ w' i x, Own w' ob ((O.map vI).set i (.int .i64 x)) 3 → Chg (fun k => k = ob) w w' → IsLinks w' lo hi b F (O.set i x) W Q) ∧
    (∀ w' i x, Own w' wb ((W.map vI).set i (.int .i64 x)) 3 → Chg (fun k => k = wb) w w' → IsLinks w' lo hi b F O (W.set i x) Q) := by
  obtain ⟨⟨fb, ob, wb, v, h1, h2, h3, h4, h5, ⟨a1, a2, a3, a4, a5, a6, a7, a8⟩, h6, h7, h8, h9⟩, p1, p2, p3, p4⟩ := h
  have n1 := own_ne h1 h2 (by decide)
  have n2 := own_ne h1 h3 (by decide)
  have n3 := own_ne h1 h4 (by decide)
  have ms : ∀ (l : List Int) i x, (l.map vI).set i (.int .i64 x) = (l.set i x).map vI := fun l i x => by rw [List.map_set]; rfl
  refine ⟨fb, ob, wb, h1.cell rfl, by rw [← p1]; exact h1.cell rfl, by rw [← p2]; exact h1.cell rfl, h2, h3, h4, ⟨a3, a4, a5, a6, a7, a8⟩, fun w' i x q1 q2 => ?_, fun w' i x q1 q2 => ?_, fun w' i x q1 q2 => ?_⟩
  · rw [ms] at q1
    exact ⟨⟨fb, ob, wb, v, by rw [List.length_set]; exact h1.chg q2 n1, q1, h3.chg q2 (Ne.symm h7), h4.chg q2 (Ne.symm h8), row_chg h5 q2 (fun k hk => (h6 k hk).2.1), ⟨a1, a2, a3, a4, a5, a6, a7, a8⟩, h6, h7, h8, h9⟩, by rw [List.length_set]; exact p1, by rw [List.length_set]; exact p2, by rw [List.length_set]; exact p3, p4⟩
  · rw [ms] at q1
    exact ⟨⟨fb, ob, wb, v, by rw [List.length_set]; exact h1.chg q2 n2, h2.chg q2 h7, q1, h4.chg q2 (Ne.symm h9), row_chg h5 q2 (fun k hk => (h6 k hk).2.2.1), ⟨a1, a2, a3, a4, a5, a6, a7, a8⟩, h6, h7, h8, h9⟩, by rw [List.length_set]; exact p1, p2, p3, p4⟩
  · rw [ms] at q1
    exact ⟨⟨fb, ob, wb, v, by rw [List.length_set]; exact h1.chg q2 n3, h2.chg q2 h8, h3.chg q2 h9, q1, row_chg h5 q2 (fun k hk => (h6 k hk).2.2.2), ⟨a1, a2, a3, a4, a5, a6, a7, a8⟩, h6, h7, h8, h9⟩, p1, by rw [List.length_set]; exact p2, p3, p4⟩

def backM (T : List TN) (p : Int) (c : UInt8) : Int := if p = 0 then 0 else lsn T ((pathM T p).tail ++ [c])

section
variable {w : World} {lo hi b tlo thi tb : Nat} {F O W Q : List Int} {T : List TN}

theorem links_back (h : IsLinks w lo hi b F O W Q) (ht : IsTrie w tlo thi tb T) (hT : TreeOK T) (hl : F.length = T.length) (p : Int) (c : UInt8) (hp : 0 ≤ p ∧ p < T.length) (hF : ∀ i : Nat, i < T.length → depM T i ≤ depM T p → F[i]? = some (failM T i)) {l4 t5 c6 : Nat}
    (b4 : w.cell? ⟨l4, 0, none⟩ = some (.pointer (some ⟨b, 0, none⟩))) (b5 : w.cell? ⟨t5, 0, none⟩ = some (.pointer (some ⟨tb, 0, none⟩))) (b6 : w.cell? ⟨c6, 0, none⟩ = some (.int .u8 c.toNat)) :
    RET Tryz.prog 87 [.int .i64 p, .pointer (some ⟨l4, 0, none⟩), .pointer (some ⟨t5, 0, none⟩), .pointer (some ⟨c6, 0, none⟩)] w fun v w' => v = .int .i64 (backM T p c) ∧ w' = w := by
  obtain ⟨fb, ob, wb, v, c0, c1, c2, c3, hq, gF, gO, gW⟩ := h.reads
  have getF : ∀ x : Int, 0 ≤ x → x < T.length → depM T x ≤ depM T p → w.cell? ⟨fb, x.toNat, none⟩ = some (.int .i64 (failM T x)) := by
    intro x h0 h1 h2
    have e : ((x.toNat : Nat) : Int) = x := by omega
    have := hF x.toNat (by omega) (by rw [e]; exact h2)
    rw [gF x.toNat (by omega)]
    rw [List.getElem?_eq_getElem (by omega)] at this
    injection this with this
    rw [this, e]
  apply by_links_Links_link_1
  unfold sh_links_Links_link_1
  simp (disch := omega) only [SX, Nat.reduceAdd, LD_92 b4, LD_105 c0, LD_3 (getF p hp.1 hp.2 (Nat.le_refl _))]
  refine ⟨fun n w1 => ∃ x : Int, n = .int .i64 x ∧ w1 = w ∧ ((x = -1 ∧ backM T p c = 0) ∨ (0 ≤ x ∧ x < T.length ∧ depM T x ≤ depM T p ∧ backM T p c = lsn T (pathM T x ++ [c]))), fun n _ => match n with | .int _ x => if 0 ≤ x then depM T x + 1 else 0 | _ => 0, ⟨_, rfl, rfl, ?_⟩, ?_⟩
  · by_cases h0 : p = 0
    · left; exact ⟨by simp [failM, h0], by simp [backM, h0]⟩
    · right
      have hi := failM_in hT p
      have hd := failM_dep hT (x := p) (by omega) hp.2
      have hf : failM T p = lsn T (pathM T p).tail := by simp [failM, h0]
      refine ⟨by rw [hf]; exact (lsn_in hT.pos _).1, hi.2, by omega, ?_⟩
      rw [hf, lsn_path hT]
      simp [backM, h0]
  · rintro n w1 ⟨x, rfl, rfl, hx⟩
    rcases hx with ⟨rfl, hb⟩ | ⟨h0, h1, h2, hb⟩
    · simp (disch := omega) only [SX, Nat.reduceAdd, show ¬ (0 : Int) ≤ -1 by decide]
      exact ⟨by rw [hb], trivial⟩
    · simp (disch := omega) only [SX, Nat.reduceAdd, h0, LD_90 b5, LD_5 b6]
      refine CALL_of (trie_Step ht x c) ?_
      rintro v w2 ⟨rfl, rfl⟩
      have hsn := lsn_snoc hT (pathM T x) c
      rw [lsn_node hT h0 h1] at hsn
      by_cases hs : 0 ≤ stepM T x c
      · rw [if_pos hs] at hsn
        simp (disch := omega) only [SX, Nat.reduceAdd, hs]
        exact ⟨by rw [hb, hsn], trivial⟩
      · rw [if_neg hs] at hsn
        simp (disch := omega) only [SX, Nat.reduceAdd, hs, LD_92 b4, LD_105 c0, LD_3 (getF x h0 h1 h2)]
        refine ⟨⟨_, by trivial, by trivial, ?_⟩, ?_⟩
        · by_cases hz : x = 0
          · left; rw [if_pos hz] at hsn; exact ⟨by simp [failM, hz], by rw [hb, hsn]⟩
          · right
            have hi := failM_in hT x
            have hd := failM_dep hT (x := x) (by omega) h1
            have hf : failM T x = lsn T (pathM T x).tail := by simp [failM, hz]
            refine ⟨by rw [hf]; exact (lsn_in hT.pos _).1, hi.2, by omega, ?_⟩
            rw [hb, hsn, if_neg hz, hf, lsn_path hT]
        · simp only [h0, if_true]
          by_cases hz : x = 0
          · simp [failM, hz]
          · have hd := failM_dep hT (x := x) (by omega) h1
            split <;> omega

theorem failM_child {T : List TN} (hT : TreeOK T) {x : Int} {y : TN} (hx : nodeM T x = some y) (h0 : 0 < x) : failM T x = backM T y.par y.c := by
  have hp := path_up hT hx h0
  obtain ⟨a1, a2, a3⟩ := nodeM_some hx
  obtain ⟨z, b1, b2, b3, b4⟩ := hT.up x.toNat y a3 (by omega)
  unfold failM backM
  rw [if_neg (by omega), hp]
  by_cases hz : y.par = 0
  · rw [if_pos hz, hz, path_root hT]; rfl
  · rw [if_neg hz]
    have hne := path_ne hT (x := y.par) (by omega) (by omega)
    cases hq : pathM T y.par with
    | nil => exact (hne hq).elim
    | cons c r => rfl

theorem links_link (h : IsLinks w lo hi b F O W Q) (ht : IsTrie w tlo thi tb T) (hT : TreeOK T) (hl : F.length = T.length) (a : Int) (ha : 0 < a ∧ a < T.length) (hF : ∀ i : Nat, i < T.length → depM T i < depM T a → F[i]? = some (failM T i) ∧ O[i]? = some (outM T i) ∧ W[i]? = some (ownM T i)) (h0 : W[a.toNat]? = some 0)
    (hhi : hi ≤ w.heap.size) (hdis : thi ≤ lo) (hd : ∀ x, depM T x ≤ 2 ^ 40) :
    RET Tryz.prog 65 [.pointer (some ⟨b, 0, none⟩), .pointer (some ⟨tb, 0, none⟩), .int .i64 a] w fun v w' => IsLinks w' lo hi b (F.set a.toNat (failM T a)) (O.set a.toNat (outM T a)) (W.set a.toNat (ownM T a)) Q ∧ Chg (fun k => lo ≤ k ∧ k < hi) w w' := by
  have hx := nodeM_in (T := T) ⟨by omega, ha.2⟩
  obtain ⟨y, hy⟩ : ∃ y, y = T[a.toNat]'(by omega) := ⟨_, rfl⟩
  rw [← hy] at hx
  obtain ⟨a1, a2, a3⟩ := nodeM_some hx
  obtain ⟨z, b1, b2, b3, b4⟩ := hT.up a.toNat y a3 (by omega)
  have hpath := path_up hT hx ha.1
  have hlen : (pathM T a).length = depM T a := rfl
  have hlast : 0 < (pathM T a).length := by rw [hpath]; simp
  have hda := hd a
  apply by_links_Links_link
  unfold sh_links_Links_link
  refine BOX1 rfl fun w1 o1 e1 z1 => ?_
  refine BOX1 rfl fun w2 o2 e2 z2 => ?_
  have e02 := e1.trans e2
  simp (disch := omega) only [SX, Nat.reduceAdd, LD_90 (o2.cell (i := 0) rfl)]
  refine CALL_of (trie_Path (ht.ext e02) a) ?_
  rintro v7 w3 ⟨hv7, e3⟩
  obtain ⟨A7, c7, rfl⟩ := hv7.shape
  obtain ⟨b7, o7, c7', hv, hcell⟩ := hv7.at (i := (pathM T a).length - 1) (by omega)
  injection hv with hA _ hc
  subst hA hc
  have hcell' : w3.cell? ⟨b7, o7 + (((pathM T a).length : Int) - 1).toNat, none⟩ = some (.int .u8 y.c.toNat) := by
    have e : (((pathM T a).length : Int) - 1).toNat = (pathM T a).length - 1 := by omega
    rw [e, hcell]
    congr 3
    have : (pathM T a)[(pathM T a).length - 1]? = some y.c := by rw [hpath]; simp
    rw [List.getElem?_eq_getElem (by omega)] at this
    injection this with this
    rw [this]
  have o13 := o1.ext (e2.trans e3)
  have o23 := o2.ext e3
  simp (disch := omega) only [SX, Nat.reduceAdd, LD_5 hcell']
  refine AL_5 fun w4 o4 e4 z4 => ?_
  refine STORE SZ_5 o4 (by simp) rfl rfl fun w5 o5 c5 z5 => ?_
  simp only [List.set_cons_zero] at o5
  have e35 : Ext w3 w5 := e4.ext_of c5 fun i hi => by omega
  have e05 : Ext w w5 := e02.trans (e3.trans e35)
  have o15 := o13.ext e35
  have o25 := o23.ext e35
  try simp (disch := omega) only [SX, Nat.reduceAdd]
  simp (disch := omega) only [SX, Nat.reduceAdd, LD_90 (o25.cell (i := 0) rfl)]
  have ht5 := ht.ext e05
  have h5 := h.ext e05
  refine CALL_of (trie_Parent ht5 a) ?_
  rintro v w6 ⟨rfl, rfl⟩
  have hpar : parentM T a = y.par := by simp [parentM, hx]
  have hdp : depM T y.par < depM T a := by rw [depM, depM, hpath, List.length_append]; simp
  refine CALLV_of (links_back h5 ht5 hT hl y.par y.c ⟨b1, by omega⟩ (fun i hi hd => (hF i hi (by omega)).1) (o15.cell (i := 0) rfl) (o25.cell (i := 0) rfl) (o5.cell (i := 0) rfl) |> fun k => by rw [hpar]; exact k) ?_
  rintro v w7 ⟨rfl, rfl⟩
  rw [← failM_child hT hx ha.1]
  generalize hw0 : w7 = w8 at *
  have hfl := failM_in hT a
  have hf0 : 0 ≤ failM T a := by unfold failM; rw [if_neg (by omega)]; exact (lsn_in hT.pos _).1
  have hfd := failM_dep hT ha.1 ha.2
  obtain ⟨k1, k2, k3⟩ := hF (failM T a).toNat (by omega) (by rw [show (((failM T a).toNat : Nat) : Int) = failM T a by omega]; exact hfd)
  have ef : (((failM T a).toNat : Nat) : Int) = failM T a := by omega
  rw [ef] at k1 k2 k3
  have hne : (failM T a).toNat ≠ a.toNat := by
    intro he
    have : failM T a = a := by omega
    rw [this] at hfd
    omega
  obtain ⟨fb, ob, wb, c0, c1, c2, f1, f2, f3, ⟨l1, l2, l3, l4, l5, l6⟩, g1, -, -⟩ := h5.own
  have d5 := e05.size
  simp (disch := omega) only [SX, Nat.reduceAdd, LD_92 (o15.cell (i := 0) rfl), LD_105 c0]
  refine STORE SZ_3 f1 (by simp; omega) rfl rfl fun w9 p9 c9 z9 => ?_
  have h9 := g1 w9 _ _ p9 c9
  have o19 := o15.chg c9 (by omega)
  have o29 := o25.chg c9 (by omega)
  have ht9 := ht5.chg c9 (fun i hi => by omega)
  clear c0 c1 c2 f1 f2 f3 g1
  have olen := h.olen
  have wlen := h.wlen
  obtain ⟨fb', ob, wb, c0, c1, c2, f1, f2, f3, ⟨m1, m2, m3, m4, m5, m6⟩, -, g1, -⟩ := h9.own
  rw [List.length_set] at c0 c1 c2
  try simp (disch := omega) only [SX, Nat.reduceAdd]
  simp (disch := omega) only [SX, Nat.reduceAdd, LD_92 (o19.cell (i := 0) rfl), LD_105 c1]
  refine STORE SZ_3 f2 (by simp; omega) rfl rfl fun w10 p10 c10 z10 => ?_
  have h10 := g1 w10 _ _ p10 c10
  have o110 := o19.chg c10 (by omega)
  have o210 := o29.chg c10 (by omega)
  have ht10 := ht9.chg c10 (fun i hi => by omega)
  have C10 : Chg (fun k => lo ≤ k ∧ k < hi) w w10 := (e05.chg.then c9 (fun _ _ x => x) (fun i _ x => by subst x; omega)).then c10 (fun _ _ x => x) (fun i _ x => by subst x; omega)
  clear c0 c1 c2 f1 f2 f3 g1
  obtain ⟨fb'', ob', wb', c0, c1, c2, f1, f2, f3, ⟨n1, n2, n3, n4, n5, n6⟩, -, g2, -⟩ := h10.own
  rw [List.length_set] at c0 c1 c2
  have gW : w10.cell? ⟨wb', (failM T a).toNat, none⟩ = some (.int .i64 (ownM T (failM T a))) := f3.cell (by simp [k3, vI])
  have gO : w10.cell? ⟨ob', (failM T a).toNat, none⟩ = some (.int .i64 (outM T (failM T a))) := f2.cell (by
    rw [List.getElem?_map, List.getElem?_set_ne (Ne.symm hne), k2]; rfl)
  have hout := outM_step hT ha.1 ha.2
  refine ⟨fun w11 => IsLinks w11 lo hi b (F.set a.toNat (failM T a)) (O.set a.toNat (outM T a)) W Q ∧ Chg (fun k => lo ≤ k ∧ k < hi) w w11 ∧ Own w11 w.heap.size [.pointer (some ⟨b, 0, none⟩)] 92 ∧ Own w11 w1.heap.size [.pointer (some ⟨tb, 0, none⟩)] 90 ∧ IsTrie w11 tlo thi tb T, ?_, ?_⟩
  · by_cases ho : ownM T (failM T a) = 0
    · rw [if_pos ho] at hout
      simp (disch := omega) only [SX, Nat.reduceAdd, LD_92 (o110.cell (i := 0) rfl), LD_105 c2, LD_3 gW, ho, DRAWQ, RD_92 (o110.cell (i := 0) rfl), RD_105 c1, RD_3 gO]
      refine STORE SZ_3 f2.drew (by simp; omega) rfl rfl fun w11 p11 c11 z11 => ?_
      have c11 := c11.of_drew
      have h11 := g2 w11 _ _ p11 c11
      rw [List.set_set] at h11
      rw [hout]
      exact ⟨h11, C10.then c11 (fun _ _ x => x) (fun i _ x => by subst x; omega), o110.chg c11 (by omega), o210.chg c11 (by omega), ht10.chg c11 (fun i hi => by omega)⟩
    · rw [if_neg ho] at hout
      simp (disch := omega) only [SX, Nat.reduceAdd, LD_92 (o110.cell (i := 0) rfl), LD_105 c2, LD_3 gW, ho]
      rw [hout]
      exact ⟨h10, C10, o110, o210, ht10⟩
  · rintro w11 ⟨h11, C11, o111, o211, ht11⟩
    simp (disch := omega) only [SX, Nat.reduceAdd, LD_90 (o211.cell (i := 0) rfl)]
    refine CALL_of (trie_Word ht11 a) ?_
    rintro v w12 ⟨rfl, rfl⟩
    obtain ⟨fb3, ob3, wb3, c0, c1, c2, f1, f2, f3, ⟨n1, n2, n3, n4, n5, n6⟩, -, -, g3⟩ := h11.own
    rw [List.length_set] at c0 c1 c2
    by_cases hw : 0 ≤ wordM T a
    · have hown : ownM T a = depM T a := by unfold ownM; rw [if_pos ⟨ha.1, hw⟩]
      simp (disch := omega) only [SX, Nat.reduceAdd, hw, LD_92 (o111.cell (i := 0) rfl), LD_105 c2]
      refine STORE SZ_3 f3 (by simp; omega) rfl rfl fun w13 p13 c13 z13 => ?_
      rw [hown]
      exact ⟨g3 w13 _ _ p13 c13, C11.then c13 (fun _ _ x => x) (fun i _ x => by subst x; omega)⟩
    · have hown : ownM T a = 0 := by unfold ownM; rw [if_neg (by omega)]
      simp (disch := omega) only [SX, Nat.reduceAdd, hw]
      rw [hown]
      refine ⟨?_, C11⟩
      have : W.set a.toNat 0 = W := by
        apply List.ext_getElem?
        intro j
        rw [List.getElem?_set]
        split
        · rename_i e; subst e; rw [h0]; split <;> simp; omega
        · rfl
      rw [this]
      exact h11
end
end Go.Proofs.YtgjfhmahiiokeaaGreat.Y
