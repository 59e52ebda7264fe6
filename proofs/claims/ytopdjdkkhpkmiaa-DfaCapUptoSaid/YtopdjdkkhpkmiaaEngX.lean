import Derived.Test.YtopdjdkkhpkmiaaEngW
set_option linter.unusedVariables false
set_option linter.unusedSimpArgs false
namespace Go.Sx
open Go

/-- What a loop's proof is good for, said of environments. -/
theorem loopX_out {live : List Nat} {ρ ρm : Env} {w : World} {body : Env → World → (Env → World → Prop) → Prop} (hnd : live.Nodup)
    (hmono : ∀ σ w K K', (∀ σ w, K σ w → K' σ w) → body σ w K → body σ w K') (h : loopX live ρ ρm w body) :
    ∃ (I : Env → World → Prop) (μ : Env → World → Nat),
      (∃ σ, I σ w ∧ ∀ j ∈ live, σ j = ρ j) ∧
      (∀ σ w, I σ w → (∀ j, j ∉ live → σ j = ρm j) ∧ (∀ j ∈ live, ∃ x, σ j = some x)) ∧
      (∀ σ σ' w, (∀ j ∈ live, σ j = σ' j) → μ σ w = μ σ' w) ∧
      (∀ σ w, I σ w → body σ w (fun σ' w' => ∃ σ1, I σ1 w' ∧ μ σ1 w' < μ σ w ∧ ∀ j ∈ live, σ1 j = σ' j)) := by
  unfold loopX at h
  split at h
  · obtain ⟨I, μ, h0, hs⟩ := h
    refine ⟨fun σ w => σ = ρm ∧ I w, fun _ w => μ w, ⟨ρm, ⟨rfl, h0⟩, by simp⟩, ?_, ?_, ?_⟩
    · rintro σ w ⟨rfl, _⟩; simp
    · simp
    · rintro σ w ⟨rfl, hI⟩
      exact hmono _ _ _ _ (fun σ' w' hn => ⟨_, ⟨rfl, hn.1⟩, hn.2, by simp⟩) (hs w hI)
  · rename_i a
    split at h
    · rename_i x hx
      obtain ⟨I, μ, h0, hs⟩ := h
      refine ⟨fun σ w => ∃ x, σ = ρm.set a (some x) ∧ I x w, fun σ w => match σ a with | some x => μ x w | none => 0, ⟨_, ⟨x, rfl, h0⟩, by simp [set_same, hx]⟩, ?_, ?_, ?_⟩
      · rintro σ w ⟨x, rfl, _⟩
        refine ⟨fun j hj => set_other (by simpa using hj), fun j hj => ?_⟩
        obtain rfl : j = a := by simpa using hj
        exact ⟨x, set_same⟩
      · intro σ σ' w hj
        dsimp only
        rw [hj a (by simp)]
      · rintro σ w ⟨x, rfl, hI⟩
        refine hmono _ _ _ _ (fun σ' w' hn => ?_) (hs x w hI)
        split at hn
        · rename_i x' hx'
          refine ⟨_, ⟨x', rfl, hn.1⟩, ?_, ?_⟩
          · simpa [set_same] using hn.2
          · intro j hj
            obtain rfl : j = a := by simpa using hj
            rw [set_same, hx']
        · cases hn
    · cases h
  · rename_i a b
    have nba : a ≠ b := by simp at hnd; exact hnd
    split at h
    · rename_i x y hx hy
      obtain ⟨I, μ, h0, hs⟩ := h
      refine ⟨fun σ w => ∃ x y, σ = (ρm.set a (some x)).set b (some y) ∧ I x y w, fun σ w => match σ a, σ b with | some x, some y => μ x y w | _, _ => 0, ⟨_, ⟨x, y, rfl, h0⟩, ?_⟩, ?_, ?_, ?_⟩
      · intro j hj
        simp at hj
        rcases hj with rfl | rfl <;> simp [set_same, set_other, nba, hx, hy]
      · rintro σ w ⟨x, y, rfl, _⟩
        refine ⟨fun j hj => ?_, fun j hj => ?_⟩
        · simp at hj; simp [set_other, hj]
        · simp at hj
          rcases hj with rfl | rfl <;> simp [set_same, set_other, nba]
      · intro σ σ' w hj
        dsimp only
        rw [hj a (by simp), hj b (by simp)]
      · rintro σ w ⟨x, y, rfl, hI⟩
        refine hmono _ _ _ _ (fun σ' w' hn => ?_) (hs x y w hI)
        split at hn
        · rename_i x' y' hx' hy'
          refine ⟨_, ⟨x', y', rfl, hn.1⟩, ?_, ?_⟩
          · simpa [set_same, set_other, nba] using hn.2
          · intro j hj
            simp at hj
            rcases hj with rfl | rfl <;> simp [set_same, set_other, nba, hx', hy']
        · cases hn
    · cases h
  · rename_i a b c
    have n1 : a ≠ b := by simp at hnd; exact hnd.1.1
    have n2 : a ≠ c := by simp at hnd; exact hnd.1.2
    have n3 : b ≠ c := by simp at hnd; exact hnd.2
    split at h
    · rename_i x y z hx hy hz
      obtain ⟨I, μ, h0, hs⟩ := h
      refine ⟨fun σ w => ∃ x y z, σ = ((ρm.set a (some x)).set b (some y)).set c (some z) ∧ I x y z w, fun σ w => match σ a, σ b, σ c with | some x, some y, some z => μ x y z w | _, _, _ => 0, ⟨_, ⟨x, y, z, rfl, h0⟩, ?_⟩, ?_, ?_, ?_⟩
      · intro j hj
        simp at hj
        rcases hj with rfl | rfl | rfl <;> simp [set_same, set_other, n1, n2, n3, hx, hy, hz]
      · rintro σ w ⟨x, y, z, rfl, _⟩
        refine ⟨fun j hj => ?_, fun j hj => ?_⟩
        · simp at hj; simp [set_other, hj]
        · simp at hj
          rcases hj with rfl | rfl | rfl <;> simp [set_same, set_other, n1, n2, n3]
      · intro σ σ' w hj
        dsimp only
        rw [hj a (by simp), hj b (by simp), hj c (by simp)]
      · rintro σ w ⟨x, y, z, rfl, hI⟩
        refine hmono _ _ _ _ (fun σ' w' hn => ?_) (hs x y z w hI)
        split at hn
        · rename_i x' y' z' hx' hy' hz'
          refine ⟨_, ⟨x', y', z', rfl, hn.1⟩, ?_, ?_⟩
          · simpa [set_same, set_other, n1, n2, n3] using hn.2
          · intro j hj
            simp at hj
            rcases hj with rfl | rfl | rfl <;> simp [set_same, set_other, n1, n2, n3, hx', hy', hz']
        · cases hn
    · cases h
  · rename_i a b c d
    have n1 : a ≠ b := by simp at hnd; exact hnd.1.1
    have n2 : a ≠ c := by simp at hnd; exact hnd.1.2.1
    have n3 : a ≠ d := by simp at hnd; exact hnd.1.2.2
    have n4 : b ≠ c := by simp at hnd; exact hnd.2.1.1
    have n5 : b ≠ d := by simp at hnd; exact hnd.2.1.2
    have n6 : c ≠ d := by simp at hnd; exact hnd.2.2
    split at h
    · rename_i x y z u hx hy hz hu
      obtain ⟨I, μ, h0, hs⟩ := h
      refine ⟨fun σ w => ∃ x y z u, σ = (((ρm.set a (some x)).set b (some y)).set c (some z)).set d (some u) ∧ I x y z u w, fun σ w => match σ a, σ b, σ c, σ d with | some x, some y, some z, some u => μ x y z u w | _, _, _, _ => 0, ⟨_, ⟨x, y, z, u, rfl, h0⟩, ?_⟩, ?_, ?_, ?_⟩
      · intro j hj
        simp at hj
        rcases hj with rfl | rfl | rfl | rfl <;> simp [set_same, set_other, n1, n2, n3, n4, n5, n6, hx, hy, hz, hu]
      · rintro σ w ⟨x, y, z, u, rfl, _⟩
        refine ⟨fun j hj => ?_, fun j hj => ?_⟩
        · simp at hj; simp [set_other, hj]
        · simp at hj
          rcases hj with rfl | rfl | rfl | rfl <;> simp [set_same, set_other, n1, n2, n3, n4, n5, n6]
      · intro σ σ' w hj
        dsimp only
        rw [hj a (by simp), hj b (by simp), hj c (by simp), hj d (by simp)]
      · rintro σ w ⟨x, y, z, u, rfl, hI⟩
        refine hmono _ _ _ _ (fun σ' w' hn => ?_) (hs x y z u w hI)
        split at hn
        · rename_i x' y' z' u' hx' hy' hz' hu'
          refine ⟨_, ⟨x', y', z', u', rfl, hn.1⟩, ?_, ?_⟩
          · simpa [set_same, set_other, n1, n2, n3, n4, n5, n6] using hn.2
          · intro j hj
            simp at hj
            rcases hj with rfl | rfl | rfl | rfl <;> simp [set_same, set_other, n1, n2, n3, n4, n5, n6, hx', hy', hz', hu']
        · cases hn
    · cases h
  · rename_i a b c d e
    have n1 : a ≠ b := by simp at hnd; exact hnd.1.1
    have n2 : a ≠ c := by simp at hnd; exact hnd.1.2.1
    have n3 : a ≠ d := by simp at hnd; exact hnd.1.2.2.1
    have n4 : b ≠ c := by simp at hnd; exact hnd.2.1.1
    have n5 : b ≠ d := by simp at hnd; exact hnd.2.1.2.1
    have n6 : c ≠ d := by simp at hnd; exact hnd.2.2.1.1
    have m1 : a ≠ e := by simp at hnd; exact hnd.1.2.2.2
    have m2 : b ≠ e := by simp at hnd; exact hnd.2.1.2.2
    have m3 : c ≠ e := by simp at hnd; exact hnd.2.2.1.2
    have m4 : d ≠ e := by simp at hnd; exact hnd.2.2.2
    split at h
    · rename_i x y z u t hx hy hz hu ht
      obtain ⟨I, μ, h0, hs⟩ := h
      refine ⟨fun σ w => ∃ x y z u t, σ = ((((ρm.set a (some x)).set b (some y)).set c (some z)).set d (some u)).set e (some t) ∧ I x y z u t w, fun σ w => match σ a, σ b, σ c, σ d, σ e with | some x, some y, some z, some u, some t => μ x y z u t w | _, _, _, _, _ => 0, ⟨_, ⟨x, y, z, u, t, rfl, h0⟩, ?_⟩, ?_, ?_, ?_⟩
      · intro j hj
        simp at hj
        rcases hj with rfl | rfl | rfl | rfl | rfl <;> simp [set_same, set_other, n1, n2, n3, n4, n5, n6, m1, m2, m3, m4, hx, hy, hz, hu, ht]
      · rintro σ w ⟨x, y, z, u, t, rfl, _⟩
        refine ⟨fun j hj => ?_, fun j hj => ?_⟩
        · simp at hj; simp [set_other, hj]
        · simp at hj
          rcases hj with rfl | rfl | rfl | rfl | rfl <;> simp [set_same, set_other, n1, n2, n3, n4, n5, n6, m1, m2, m3, m4]
      · intro σ σ' w hj
        dsimp only
        rw [hj a (by simp), hj b (by simp), hj c (by simp), hj d (by simp), hj e (by simp)]
      · rintro σ w ⟨x, y, z, u, t, rfl, hI⟩
        refine hmono _ _ _ _ (fun σ' w' hn => ?_) (hs x y z u t w hI)
        split at hn
        · rename_i x' y' z' u' t' hx' hy' hz' hu' ht'
          refine ⟨_, ⟨x', y', z', u', t', rfl, hn.1⟩, ?_, ?_⟩
          · simpa [set_same, set_other, n1, n2, n3, n4, n5, n6, m1, m2, m3, m4] using hn.2
          · intro j hj
            simp at hj
            rcases hj with rfl | rfl | rfl | rfl | rfl <;> simp [set_same, set_other, n1, n2, n3, n4, n5, n6, m1, m2, m3, m4, hx', hy', hz', hu', ht']
        · cases hn
    · cases h
  · cases h

end Go.Sx
