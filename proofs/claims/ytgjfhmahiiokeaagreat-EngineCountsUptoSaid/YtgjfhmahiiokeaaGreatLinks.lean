import Derived.Test.YtgjfhmahiiokeaaGreatAc
import Derived.Test.YtgjfhmahiiokeaaGreatSlices
set_option linter.unusedVariables false
set_option linter.unusedSimpArgs false
set_option linter.unusedVariables false
set_option linter.unusedSimpArgs false
set_option maxRecDepth 8000
namespace Go.Proofs.YtgjfhmahiiokeaaGreat.Y
open Go Go.Sx

/-! ### Where a tree's nodes fall to -/
structure IsLinks (w : World) (lo hi b : Nat) (F O W Q : List Int) : Prop where
  ex : ∃ fb ob wb v, Own w b [.slice (some ⟨fb, 0, none⟩) F.length F.length, .slice (some ⟨ob, 0, none⟩) O.length O.length, .slice (some ⟨wb, 0, none⟩) W.length W.length, v] 137 ∧ Own w fb (F.map vI) 3 ∧ Own w ob (O.map vI) 3 ∧ Own w wb (W.map vI) 3 ∧
    w.ownsRow lo 3 1 v Q.length (Q.map vI) ∧ (lo ≤ b ∧ b < hi ∧ lo ≤ fb ∧ fb < hi ∧ lo ≤ ob ∧ ob < hi ∧ lo ≤ wb ∧ wb < hi) ∧ (∀ k, v.ownBlock = some k → k < hi ∧ k ≠ fb ∧ k ≠ ob ∧ k ≠ wb) ∧ fb ≠ ob ∧ fb ≠ wb ∧ ob ≠ wb
  olen : O.length = F.length
  wlen : W.length = F.length
  small : F.length ≤ 2 ^ 40
  qsmall : Q.length ≤ 2 ^ 40

theorem own_ne {w : World} {a b : Nat} {cs ds : List Value} {s t : TypeId} (h : Own w a cs s) (k : Own w b ds t) (hn : s ≠ t) : a ≠ b := by
  rintro rfl
  have := (show w.heap[a]? = _ from h).symm.trans k
  injection this with this
  injection this with _ this
  exact hn this
theorem row_ne {w : World} {a k base e n size : Nat} {cs xs : List Value} {v : Value} {t : TypeId} (h : Own w a cs t) (hr : w.ownsRow base e size v n xs) (hk : v.ownBlock = some k) (hn : t ≠ e) : a ≠ k := by
  rintro rfl
  rcases hr.2 with ⟨rfl, _⟩ | ⟨g, _, cur, rfl, _, hg, _⟩
  · cases hk
  · simp [Value.ownBlock] at hk
    subst hk
    have := (show w.heap[g]? = _ from h).symm.trans hg
    injection this with this
    injection this with _ this
    exact hn this

theorem IsLinks.chg {S : Nat → Prop} {w w' : World} {lo hi b : Nat} {F O W Q : List Int} (h : IsLinks w lo hi b F O W Q) (hc : Chg S w w') (hs : ∀ i, S i → i < lo ∨ hi ≤ i) : IsLinks w' lo hi b F O W Q := by
  obtain ⟨⟨fb, ob, wb, v, h1, h2, h3, h4, h5, ⟨a1, a2, a3, a4, a5, a6, a7, a8⟩, h6, h7⟩, p1, p2, p3, p4⟩ := h
  have nS : ∀ i, lo ≤ i → i < hi → ¬ S i := fun i h1 h2 hS => by have := hs i hS; omega
  exact ⟨⟨fb, ob, wb, v, h1.chg hc (nS _ a1 a2), h2.chg hc (nS _ a3 a4), h3.chg hc (nS _ a5 a6), h4.chg hc (nS _ a7 a8), row_chg h5 hc (fun k hk => nS _ (row_base h5 k hk.symm) (h6 k hk).1), ⟨a1, a2, a3, a4, a5, a6, a7, a8⟩, h6, h7⟩, p1, p2, p3, p4⟩
theorem IsLinks.ext {w w' : World} {lo hi b : Nat} {F O W Q : List Int} (h : IsLinks w lo hi b F O W Q) (hc : Ext w w') : IsLinks w' lo hi b F O W Q := h.chg hc fun _ x => x.elim

/-- What a reader may lean on. -/
theorem IsLinks.reads {w : World} {lo hi b : Nat} {F O W Q : List Int} (h : IsLinks w lo hi b F O W Q) : ∃ fb ob wb v, w.cell? ⟨b, 0, none⟩ = some (.slice (some ⟨fb, 0, none⟩) F.length F.length) ∧ w.cell? ⟨b, 1, none⟩ = some (.slice (some ⟨ob, 0, none⟩) F.length F.length) ∧ w.cell? ⟨b, 2, none⟩ = some (.slice (some ⟨wb, 0, none⟩) F.length F.length) ∧ w.cell? ⟨b, 3, none⟩ = some v ∧ SlI w v Q ∧
    (∀ i (hi : i < F.length) , w.cell? ⟨fb, i, none⟩ = some (.int .i64 F[i])) ∧ (∀ i x, O[i]? = some x → w.cell? ⟨ob, i, none⟩ = some (.int .i64 x)) ∧ (∀ i x, W[i]? = some x → w.cell? ⟨wb, i, none⟩ = some (.int .i64 x)) := by
  obtain ⟨⟨fb, ob, wb, v, h1, h2, h3, h4, h5, _⟩, p1, p2, p3, p4⟩ := h
  rw [p1, p2] at h1
  refine ⟨fb, ob, wb, v, h1.cell rfl, h1.cell rfl, h1.cell rfl, h1.cell rfl, (SlI.of_row h5 (by omega)).1, fun i hi => h2.cell ?_, fun i x hx => h3.cell ?_, fun i x hx => h4.cell ?_⟩
  · simp [hi, vI]
  · simp [hx, vI]
  · simp [hx, vI]

section
variable {w : World} {lo hi b : Nat} {F O W Q : List Int}

theorem links_is (h : IsLinks w lo hi b F O W Q) (n : Int) : RET Tryz.prog 92 [.pointer (some ⟨b, 0, none⟩), .int .i64 n] w fun v w' => v = .bool (decide (0 ≤ n ∧ n < F.length)) ∧ w' = w := by
  obtain ⟨fb, ob, wb, v, h0, h1, h2, h3, hq, hF, hO, hW⟩ := h.reads
  apply by_links_Links_is
  unfold sh_links_Links_is
  by_cases hn : 0 ≤ n
  · simp (disch := omega) only [SX, Nat.reduceAdd, hn, LD_105 h0, true_and]
  · simp (disch := omega) only [SX, Nat.reduceAdd, hn, false_and]
    exact ⟨trivial, trivial⟩

theorem links_Fail (h : IsLinks w lo hi b F O W Q) (n : Int) : RET Tryz.prog 74 [.pointer (some ⟨b, 0, none⟩), .int .i64 n] w fun v w' => v = .int .i64 (if 0 ≤ n then (F[n.toNat]?).getD (-1) else -1) ∧ w' = w := by
  obtain ⟨fb, ob, wb, v, h0, h1, h2, h3, hq, hF, hO, hW⟩ := h.reads
  apply by_links_Links_Fail
  unfold sh_links_Links_Fail
  refine CALL_of (links_is h n) ?_
  rintro v w' ⟨rfl, rfl⟩
  by_cases hi : 0 ≤ n ∧ n < F.length
  · simp (disch := omega) only [SX, Nat.reduceAdd, hi, and_self, LD_105 h0, LD_3 (hF n.toNat (by omega))]
    simp [List.getElem?_eq_getElem (show n.toNat < F.length by omega)]
  · simp only [SX, Nat.reduceAdd, hi]
    refine ⟨?_, trivial⟩
    split
    · rw [List.getElem?_eq_none (by omega)]; rfl
    · rfl

theorem links_Order (h : IsLinks w lo hi b F O W Q) : RET Tryz.prog 72 [.pointer (some ⟨b, 0, none⟩)] w fun v w' => SlI w' v Q ∧ Ext w w' ∧ ∀ k, v.ownBlock = some k → w.heap.size ≤ k ∧ k < w'.heap.size := by
  obtain ⟨fb, ob, wb, v, h0, h1, h2, h3, hq, hF, hO, hW⟩ := h.reads
  apply by_links_Links_Order
  unfold sh_links_Links_Order
  simp (disch := omega) only [SX, Nat.reduceAdd, LD_105 h3]
  exact CALL_of (slices_CloneI hq h.qsmall) fun v w' h => h

theorem links_Ends {T : List TN} (h : IsLinks w lo hi b F O W Q) (hT : TreeOK T) (hl : F.length = T.length) (hO : ∀ i, i < T.length → O[i]? = some (outM T i)) (hW : ∀ i, i < T.length → W[i]? = some (ownM T i)) (hd : ∀ x, depM T x ≤ 2 ^ 40) (n : Int) :
    RET Tryz.prog 129 [.pointer (some ⟨b, 0, none⟩), .int .i64 n] w fun v w' => w'.ownsRow w.heap.size 3 1 v (if 0 ≤ n ∧ n < T.length then endsL T (pathM T n) else []).length ((if 0 ≤ n ∧ n < T.length then endsL T (pathM T n) else []).map vI) ∧ Ext w w' := by
  apply by_links_Links_Ends
  unfold sh_links_Links_Ends
  refine ⟨fun node out w1 => ∃ (x : Int) (xs : List Int) (m : Nat), node = .int .i64 x ∧ Ext w w1 ∧ w1.ownsRow w.heap.size 3 1 out m (xs.map vI) ∧ xs ++ (if 0 ≤ x ∧ x < T.length then endsL T (pathM T x) else []) = (if 0 ≤ n ∧ n < T.length then endsL T (pathM T n) else []) ∧ (if 0 ≤ x ∧ x < T.length then m + depM T x ≤ 2 ^ 40 else m ≤ 2 ^ 40 + 1),
    fun node _ _ => match node with | .int _ x => if 0 ≤ x ∧ x < T.length then depM T x + 1 else 0 | _ => 0, ⟨n, [], 0, rfl, Ext.refl w, World.ownsRow_nil _ _ _ _, rfl, by split <;> simp; exact hd n⟩, ?_⟩
  rintro node out w1 ⟨x, xs, m, rfl, he, ho, hu, hm⟩
  have h1 := h.ext he
  obtain ⟨fb, ob, wb, v, c0, c1, c2, c3, hq, _, kO, kW⟩ := id h1.reads
  obtain ⟨a, c, rfl, hac⟩ := row_shape ho
  refine CALL_of (links_is h1 x) ?_
  rintro v w' ⟨rfl, rfl⟩
  rw [hl]
  by_cases hi : 0 ≤ x ∧ x < T.length
  · rw [if_pos hi] at hm
    have ex : ((x.toNat : Nat) : Int) = x := by omega
    have gO := kO x.toNat _ (hO x.toNat (by omega))
    have gW := kW x.toNat _ (hW x.toNat (by omega))
    rw [ex] at gO gW
    obtain ⟨q1, q2, q3, q4, q5⟩ := outM_all hT (depM T x + 1) x hi.1 hi.2 (by omega)
    rw [if_pos hi, q5] at hu
    simp (disch := omega) only [SX, Nat.reduceAdd, hi, and_self]
    obtain ⟨ys, hys⟩ : ∃ ys, ys = xs ++ (if 0 < ownM T x then [ownM T x] else []) := ⟨_, rfl⟩
    refine ⟨fun v w2 => ∃ m', w2.ownsRow w.heap.size 3 1 v m' (ys.map vI) ∧ Ext w w2 ∧ m' ≤ m + 1, ?_, ?_⟩
    · by_cases hg : 0 < ownM T x
      · have hg' : ownM T x > 0 := hg
        simp (disch := omega) only [SX, Nat.reduceAdd, LD_105 c2, LD_3 gW, hg]
        refine BS_105_1 fun w3 hb he3 hz3 => ?_
        refine PUSH1 (by kernel_rfl) IN_3 rfl (row_ext ho he3) hb rfl (by unfold maxLen; omega) (by omega) (by have := he.size; omega) fun v' w4 ho4 hc4 hg4 => ?_
        rw [hys, if_pos hg]
        exact ⟨m + 1, by rw [List.map_append]; exact ho4, (he.trans he3).ext_of hc4 fun i hi => row_base (row_ext ho he3) i hi, by omega⟩
      · simp (disch := omega) only [SX, Nat.reduceAdd, LD_105 c2, LD_3 gW, hg]
        rw [hys, if_neg hg, List.append_nil]
        exact ⟨m, ho, he, by omega⟩
    · rintro v' w2 ⟨m', ho2, he2, hm2⟩
      obtain ⟨fb, ob, wb, v, c0, c1, c2, c3, hq, _, kO, kW⟩ := (h.ext he2).reads
      have gO := kO x.toNat _ (hO x.toNat (by omega))
      rw [ex] at gO
      simp (disch := omega) only [SX, Nat.reduceAdd, LD_105 c1, LD_3 gO]
      refine ⟨⟨outM T x, _, m', rfl, he2, ho2, ?_, ?_⟩, ?_⟩
      · rw [← hu, hys, List.append_assoc]
        congr 2
        by_cases ho : 0 ≤ outM T x
        · rw [if_pos ⟨ho, q2⟩, if_pos ho]
        · rw [if_neg (by omega), if_neg ho]
      · by_cases ho : 0 ≤ outM T x
        · have := (q4 ho).1
          rw [if_pos ⟨ho, q2⟩]; omega
        · rw [if_neg (by omega)]; omega
      · simp only [hi, and_self, if_true]
        by_cases ho : 0 ≤ outM T x
        · have := (q4 ho).1
          rw [if_pos ⟨ho, q2⟩]; omega
        · rw [if_neg (by omega)]; omega
  · rw [if_neg hi, List.append_nil] at hu
    rw [if_neg hi] at hm
    simp (disch := omega) only [SX, Nat.reduceAdd, hi]
    rw [← hu]
    obtain rfl : m = xs.length := by have := ho.1; simp at this; omega
    exact ⟨ho, he⟩
end
end Go.Proofs.YtgjfhmahiiokeaaGreat.Y
