import Derived.Test.YtgjfhmahiiokeaaGreatDfaB
set_option linter.unusedVariables false
set_option linter.unusedSimpArgs false
set_option linter.unusedVariables false
set_option linter.unusedSimpArgs false
set_option maxRecDepth 8000
namespace Go.Proofs.YtgjfhmahiiokeaaGreat.Y
open Go Go.Sx

theorem idx_inj {W x s k j : Nat} (hk : k < W) (hj : j < W) (h : x * W + k = s * W + j) : x = s ∧ k = j := by
  have : x = s := by
    rcases Nat.lt_trichotomy x s with hl | hl | hl
    · have := Nat.mul_le_mul_right W (show x + 1 ≤ s from hl)
      rw [Nat.add_mul] at this
      omega
    · exact hl
    · have := Nat.mul_le_mul_right W (show s + 1 ≤ x from hl)
      rw [Nat.add_mul] at this
      omega
  subst this
  exact ⟨rfl, by omega⟩

theorem Queue.before {T : List TN} (h : TreeOK T) {Q : List Int} (q : Queue T Q Q.length) {i : Nat} {x y : Int} (hx : Q[i]? = some x) (h0 : 0 ≤ y) (h1 : y < T.length) (hd : depM T y < depM T x) : y ∈ Q.take i := by
  have hy := q.all h _ y h0 h1 (Nat.le_refl _)
  obtain ⟨j, hj⟩ := List.getElem?_of_mem hy
  obtain ⟨hjl, hje⟩ := List.getElem?_eq_some_iff.1 hj
  obtain ⟨hil, hie⟩ := List.getElem?_eq_some_iff.1 hx
  by_cases hji : j < i
  · exact List.mem_of_getElem? (i := j) (by rw [List.getElem?_take, if_pos hji]; exact hj)
  · by_cases e : j = i
    · subst e; rw [hj] at hx; injection hx with hx; subst hx; omega
    · have := List.pairwise_iff_getElem.1 q.rise i j hil hjl (by omega)
      rw [hie, hje] at this
      omega

theorem DfaAt.put {w : World} {lo hi b : Nat} {ls : List (List UInt8)} {N : List Int} (h : DfaAt w lo hi b ls N) {nb : Nat} (hc : w.cell? ⟨b, 259, none⟩ = some (.slice (some ⟨nb, 0, none⟩) N.length N.length)) : Own w nb (N.map vI) 3 ∧ lo ≤ nb ∧ nb < hi ∧ nb ≠ b ∧
    ∀ w' (N' : List Int), N'.length = N.length → Own w' nb (N'.map vI) 3 → Chg (fun k => k = nb) w w' → DfaAt w' lo hi b ls N' := by
  obtain ⟨⟨tb, lb, nb', m1, m2, Q, h1, h2, h3, h4, h5, a1, a2, a3, a4, a5, a6⟩, p1, p2⟩ := h
  have hl := cls_len (inT ls)
  have : w.cell? ⟨b, 259, none⟩ = some (.slice (some ⟨nb', 0, none⟩) N.length N.length) := h1.cell (by
    rw [show (259 : Nat) = (257 + 1) + 1 from rfl, List.getElem?_cons_succ, List.getElem?_cons_succ, List.getElem?_append_right (by omega), hl]
    rfl)
  rw [hc] at this
  injection this with this
  injection this with this
  injection this with this
  injection this with this
  subst this
  have hne := own_ne h5 h1 (by decide)
  refine ⟨h5, by omega, a6, hne, fun w' N' hn ho hcc => ⟨⟨tb, lb, nb, m1, m2, Q, ?_, h2.chg hcc (fun i hi => by omega), h3.chg hcc (fun i hi => by omega), h4, ho, a1, a2, a3, a4, a5, a6⟩, by rw [hn]; exact p1, p2⟩⟩
  rw [hn]
  exact h1.chg hcc (Ne.symm hne)

theorem DfaAt.mono {w : World} {lo hi lo' hi' b : Nat} {ls : List (List UInt8)} {N : List Int} (h : DfaAt w lo hi b ls N) (h1 : lo' ≤ lo) (h2 : hi ≤ hi') : DfaAt w lo' hi' b ls N := by
  obtain ⟨⟨tb, lb, nb, m1, m2, Q, k1, k2, k3, k4, k5, a1, a2, a3, a4, a5, a6⟩, p1, p2⟩ := h
  exact ⟨⟨tb, lb, nb, m1, m2, Q, k1, k2.mono h1 (Nat.le_refl _), k3, k4, k5, by omega⟩, p1, p2⟩

def baseM (T : List TN) (s : Int) (c : UInt8) : Int := if s = 0 then 0 else deltaM T (failM T s) c

/-- One row is being filled. -/
structure Fill (w w' : World) (lo hi b nb : Nat) (ls : List (List UInt8)) (N N' : List Int) (s : Nat) (f : UInt8 → Int) : Prop where
  at' : DfaAt w' lo hi b ls N'
  chg : Chg (fun k => k = nb) w w'
  len : N'.length = N.length
  rest : ∀ x k, x ≠ s → k < wideN (inT ls) → N'[x * wideN (inT ls) + k]? = N[x * wideN (inT ls) + k]?
  row : ∀ c : UInt8, N'[s * wideN (inT ls) + clsN (inT ls) c.toNat]? = some (f c)

section
variable {w : World} {lo hi b : Nat} {ls : List (List UInt8)}

theorem failL_get {T : List TN} {x : Int} (h0 : 0 ≤ x) (h1 : x < T.length) : (if 0 ≤ x then ((failL T)[x.toNat]?).getD (-1) else -1) = failM T x := by
  rw [if_pos h0]
  unfold failL
  rw [List.getElem?_map, List.getElem?_range (by omega)]
  simp
  congr 1
  omega

/-- The bytes that lead from a state, in its row. -/
theorem dfa_kids {N : List Int} {nb : Nat} (h : DfaAt w lo hi b ls N) (hc : w.cell? ⟨b, 259, none⟩ = some (.slice (some ⟨nb, 0, none⟩) N.length N.length)) {s j : Nat} (hs : s < (trieM ls).length) (hj : j < (kidsM (trieM ls) s).length) (hin : s * wideN (inT ls) + clsN (inT ls) (kidsM (trieM ls) s)[j].toNat < N.length)
    (hr : ∀ c : UInt8, N[s * wideN (inT ls) + clsN (inT ls) c.toNat]? = some (if c ∈ (kidsM (trieM ls) s).take j then stepM (trieM ls) s c else baseM (trieM ls) s c)) :
    ∀ c : UInt8, (N.set (s * wideN (inT ls) + clsN (inT ls) (kidsM (trieM ls) s)[j].toNat) (stepM (trieM ls) s (kidsM (trieM ls) s)[j]))[s * wideN (inT ls) + clsN (inT ls) c.toNat]? = some (if c ∈ (kidsM (trieM ls) s).take (j + 1) then stepM (trieM ls) s c else baseM (trieM ls) s c) := by
  intro c
  have hT := trie_for ls
  have hmem : (kidsM (trieM ls) s)[j] ∈ kidsM (trieM ls) s := List.getElem_mem hj
  have hin' : ∀ a, a ∈ kidsM (trieM ls) s → inT ls a.toNat = true := by
    intro a ha
    obtain ⟨t, h1, h2⟩ := hT.byte (mem_kids.1 ha)
    unfold inT
    rw [decide_eq_true_eq]
    exact ⟨t, h1, a, h2, rfl⟩
  rw [List.take_succ_eq_append_getElem hj]
  rw [List.getElem?_set]
  by_cases he : (kidsM (trieM ls) s)[j] = c
  · subst he
    rw [if_pos rfl, if_pos hin, if_pos (List.mem_append_right _ (List.mem_singleton.2 rfl))]
  · have hne : ¬ s * wideN (inT ls) + clsN (inT ls) (kidsM (trieM ls) s)[j].toNat = s * wideN (inT ls) + clsN (inT ls) c.toNat := by
      intro hcls
      have hcls : clsN (inT ls) (kidsM (trieM ls) s)[j].toNat = clsN (inT ls) c.toNat := by omega
      unfold clsN at hcls
      rw [if_pos (hin' _ hmem)] at hcls
      split at hcls
      · rename_i hcT
        exact he (UInt8.toNat_inj.1 (rank_inj (UInt8.toNat_lt _) c.toNat_lt (hin' _ hmem) hcT (by omega)))
      · omega
    rw [if_neg hne, hr c]
    have : c ∈ (kidsM (trieM ls) s).take j ++ [(kidsM (trieM ls) s)[j]] ↔ c ∈ (kidsM (trieM ls) s).take j := by
      simp only [List.mem_append, List.mem_singleton]
      constructor
      · rintro (h | h)
        · exact h
        · exact (he h.symm).elim
      · exact .inl
    simp only [this]
end
end Go.Proofs.YtgjfhmahiiokeaaGreat.Y
