import Derived.Test.YtopdjdkkhpkmiaaLaw10C
import Derived.Test.YtopdjdkkhpkmiaaRefsD
set_option linter.unusedVariables false
set_option linter.unusedSimpArgs false
set_option maxRecDepth 8000
namespace Go.Proofs.Ytopdjdkkhpkmiaa.Y
open Go Go.Sx

theorem path_out {T : List TN} {n : Int} (h : ¬ (0 ≤ n ∧ n < T.length)) : pathM T n = [] := by
  unfold pathM
  rw [up_stop (fun y hy => by rw [nodeM_none h] at hy; cases hy)]
  rfl
theorem slS_nil (w : World) : SlG sCells w (.slice none 0 0) [] := ⟨none, 0, rfl, .inl rfl, Nat.le_refl _, by simp⟩

section
variable {w : World}

theorem dfa_Path' {lo hi b : Nat} {ls : List (List UInt8)} (h : IsDfa w lo hi b ls) (s : Int) : RET Try.prog 21 [.pointer (some ⟨b, 0, none⟩), .int .i64 s] w fun v w' => SlB w' v (pathM (trieM ls) s) ∧ Ext w w' := by
  obtain ⟨N, h, hr⟩ := h
  exact dfa_Path h s

theorem depM_len {ls : List (List UInt8)} (x : Int) : depM (trieM ls) x ≤ sumL ls := by
  have hT := trie_for ls
  by_cases hin : 0 ≤ x ∧ x < (trieM ls).length
  · have hf := find_of hT.ok hin.1 hin.2
    rcases hT.node (pathM (trieM ls) x) (by rw [hf]; exact hin.1) with h0 | ⟨t, ht, hp⟩
    · unfold depM; rw [h0]; simp
    · have h1 := hp.length_le
      have h2 := sumL_mem ht
      unfold depM
      omega
  · unfold depM; rw [path_out hin]; simp

theorem law10_DfaNext {l : Value} {ls : List (List UInt8)} (h : SlT w l ls) (hlim : ls.length ≤ 1048576) (s : Int) (c : UInt8) : RET Try.prog 4 [l, .int .i64 s, .int .u8 c.toNat] w fun v w' => v = .bool true ∧ Ext w w' := by
  refine RET_by fun R k => ?_
  apply by_seinelaw10_DfaNext
  unfold sh_seinelaw10_DfaNext
  refine CALL_of law10_awake ?_
  rintro v w1 ⟨rfl, e1⟩
  simp (disch := omega) only [SX, Nat.reduceAdd]
  refine CALL_of (law10_texts (h.ext e1) (by omega)) ?_
  rintro v w2 ⟨e2, hv⟩
  have e02 := e1.trans e2
  rcases hv with ⟨_, rfl⟩ | ⟨h40, out, n, rfl, hrow⟩
  · simp (disch := omega) only [SX, Nat.reduceAdd]
    refine CALL_of (ref06_Paths (slS_nil w2) (by simp [sumL])) ?_
    rintro v w3 ⟨hr3, e3⟩
    refine ⟨fun _ => False, ?_, fun _ h => h.elim⟩
    simp (disch := omega) only [SX, Nat.reduceAdd]
    exact k _ _ ⟨rfl, e02.trans e3⟩
  have hsum := sumL_le ls 40 h40
  obtain ⟨hsl, _⟩ := slS_row hrow (by omega)
  simp (disch := omega) only [SX, Nat.reduceAdd]
  refine CALL_of (ref06_Paths hsl (by omega)) ?_
  rintro pv w3 ⟨hr3, e3⟩
  have e03 := e02.trans e3
  have hT := trie_for ls
  have hTl := trie_len ls
  obtain ⟨hpl, _⟩ := slS_row hr3 (by rw [paths_len]; omega)
  obtain ⟨Ap, cp, rfl, hcp⟩ := row_shape hr3
  by_cases h12 : ls.length ≤ 12
  · by_cases hbig : 160 < (trieM ls).length
    · refine ⟨fun _ => False, ?_, fun _ h => h.elim⟩
      simp (disch := omega) only [SX, Nat.reduceAdd, h12, show (160 : Int) < ((trieM ls).length : Int) by omega]
      exact k _ _ ⟨rfl, e03⟩
    refine ⟨fun w' => w' = w3, ?_, ?_⟩
    · simp (disch := omega) only [SX, Nat.reduceAdd, h12, show ¬ (160 : Int) < ((trieM ls).length : Int) by omega]
    rintro _ rfl
    rename_i w3
    refine CALL_of (dfa_New (h.ext e03) (by omega)) ?_
    rintro v w4 ⟨e4, hv⟩
    rcases hv with ⟨hbad, _⟩ | ⟨hfew, db, rfl, hd⟩
    · omega
    have e04 := e03.trans e4
    simp (disch := omega) only [SX, Nat.reduceAdd]
    refine ⟨fun w9 => Ext w4 w9, ?_, ?_⟩
    · simp (disch := omega) only [SX, Nat.reduceAdd]
      refine CALL_of (dfa_States' hd) ?_
      rintro v w5 ⟨rfl, rfl⟩
      simp (disch := omega) only [SX, Nat.reduceAdd]
      refine CALL_of (dfa_Width' hd) ?_
      rintro v w6 ⟨rfl, e6⟩
      refine CALL_of (ref09_Len ((hsl.ext (e3.trans e4)).ext e6) (by omega)) ?_
      rintro v w7 ⟨rfl, e7⟩
      have hwide : ((wideN (inT ls) : Nat) : Int) = (((setL (inT ls)).length + 1 : Nat) : Int) := rfl
      simp (disch := omega) only [SX, Nat.reduceAdd, hwide]
      refine CALL_of (dfa_Next' (hd.ext (e6.trans e7)) s c) ?_
      rintro v w8 ⟨rfl, e8⟩
      have e48 := e6.trans (e7.trans e8)
      refine CALL_of (ref10_Next hT.ok (by omega) (hpl.ext (e4.trans e48)) (fun x => by have := depM_len (ls := ls) x; omega) s c) ?_
      rintro v w9 ⟨rfl, e9⟩
      simp (disch := omega) only [SX, Nat.reduceAdd]
      exact e48.trans e9
    · intro w9 e9
      have hd9 := hd.ext e9
      have e09 := e04.trans e9
      have hpl9 := hpl.ext (e4.trans e9)
      by_cases hin : 0 ≤ s ∧ s < (trieM ls).length
      · refine ⟨fun w' => w' = w9, ?_, ?_⟩
        · simp (disch := omega) only [SX, Nat.reduceAdd, show ¬ s < 0 by omega, show ¬ ((trieM ls).length : Int) ≤ s by omega]
        rintro _ rfl
        rename_i w9
        have hpn := paths_len (trieM ls)
        obtain ⟨b, o, c', hv, hc⟩ := slS_at hpl9 (i := s.toNat) (by omega)
        rw [hpn] at hv
        injection hv with hA _ hcc
        subst hA hcc
        refine ⟨KP (fun _ => False) w9, KP.refl _ _, ?_⟩
        simp (disch := omega) only [SX, Nat.reduceAdd, RK_9 (X := fun _ => False) hc (fun x => x) (KP.refl _ _)]
        refine CALL_of (dfa_Path' (hd9.ext (Ext.drew _)) s) ?_
        rintro v w10 ⟨hp, e10⟩
        have e10 : Ext w9 w10 := (Ext.drew _).trans e10
        refine KEEPK e10 ?_
        refine (STRK Try.underlying42 Try.underlying5 Try.underlying9 hp (KP.self _ _)).mpr ?_
        have hget : (pathsL (trieM ls))[s.toNat]'(by omega) = pathM (trieM ls) s := by
          rw [paths_get]
          congr 1
          omega
        rw [hget]
        refine (STR_eq (a := pathM (trieM ls) s) (b := pathM (trieM ls) s)).mpr ?_
        exact k _ _ ⟨by simp, e09.trans e10⟩
      · have hneg : s < 0 ∨ 0 ≤ s ∧ ((trieM ls).length : Int) ≤ s := by omega
        have hpo := path_out hin
        refine ⟨fun w1 => False, ?_, fun _ h => h.elim⟩
        rcases hneg with h0 | ⟨h0, h1⟩
        · simp (disch := omega) only [SX, Nat.reduceAdd, h0]
          refine CALL_of (dfa_Path' hd9 s) ?_
          rintro v w10 ⟨hp, e10⟩
          rw [hpo] at hp
          obtain ⟨A, c', rfl⟩ := hp.shape
          simp (disch := omega) only [SX, Nat.reduceAdd]
          exact k _ _ ⟨by simp, e09.trans e10⟩
        · simp (disch := omega) only [SX, Nat.reduceAdd, show ¬ s < 0 by omega, h1]
          refine CALL_of (dfa_Path' hd9 s) ?_
          rintro v w10 ⟨hp, e10⟩
          rw [hpo] at hp
          obtain ⟨A, c', rfl⟩ := hp.shape
          simp (disch := omega) only [SX, Nat.reduceAdd]
          exact k _ _ ⟨by simp, e09.trans e10⟩
  · refine ⟨fun _ => False, ?_, fun _ h => h.elim⟩
    simp (disch := omega) only [SX, Nat.reduceAdd, h12]
    exact k _ _ ⟨rfl, e03⟩
end
end Go.Proofs.Ytopdjdkkhpkmiaa.Y
