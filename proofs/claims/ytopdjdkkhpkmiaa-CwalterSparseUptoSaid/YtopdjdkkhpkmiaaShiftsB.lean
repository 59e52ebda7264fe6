import Derived.Test.YtopdjdkkhpkmiaaShifts
set_option linter.unusedVariables false
set_option linter.unusedSimpArgs false
set_option linter.unusedVariables false
set_option linter.unusedSimpArgs false
set_option maxRecDepth 8000
namespace Go.Proofs.Ytopdjdkkhpkmiaa.Y
open Go Go.Sx

/-- The table of moves is sound. -/
structure FarOK (T : List TN) (m : Int) (F : List (Int × Int)) : Prop where
  b : FarB T m F
  hit : ∀ x : Nat, 0 < x → x < T.length → ∀ n, 1 ≤ n → n ≤ (pathM T x).length → hitF T F x n
  end' : ∀ x : Nat, 0 < x → x < T.length → 0 ≤ wordM T x → ∀ n, 1 ≤ n → n ≤ (pathM T x).length → ∀ (v : Nat) y, (pathM T x).drop n <+: pathM T v → F[v]? = some y → y.2 ≤ n

section
variable {w : World}

theorem rep_snoc {α : Type} (i : Nat) (a : α) : List.replicate (i + 1) a = List.replicate i a ++ [a] := List.replicate_succ'

theorem shifts_Build {lo hi b : Nat} {us : List (List UInt8)} {least : Int} {N : List Int} (hB : IsBack w lo hi b us least N) (hbig : (trieM us).length ≤ 2 ^ 30) :
    RET Try.prog 70 [.pointer (some ⟨b, 0, none⟩)] w fun v w' => (∃ sb F, v = .pointer (some ⟨sb, 0, none⟩) ∧ IsShifts w' w.heap.size w'.heap.size sb b F ∧ (least ≠ 0 → FarOK (trieM us) least F)) ∧ Ext w w' := by
  have hT := (trie_for us).ok
  have hlow := hB.ok.low.1
  have hsml := hB.ok.small.1
  generalize hTe : trieM us = T at *
  have hpos := hT.pos
  refine RET_by fun R k => ?_
  apply by_shifts_Build
  unfold sh_shifts_Build
  simp (disch := omega) only [SX, Nat.reduceAdd]
  refine BOXA fun w1 o1 e1 z1 => ?_
  refine CALL_of (back_Least (hB.ext e1)) ?_
  rintro v w1 ⟨rfl, rfl⟩
  by_cases h0 : least = 0
  · simp (disch := omega) only [SX, Nat.reduceAdd, h0]
    exact k _ _ ⟨⟨_, [], rfl, ⟨_, o1, World.ownsRow_nil _ _ _ _, ⟨Nat.le_refl _, by omega, Nat.le_refl _⟩, fun k hk => by simp [Value.ownBlock] at hk⟩, fun h => (h h0).elim⟩, e1⟩
  obtain ⟨tb, b1, b2, b3, b4, b5⟩ := id (hB.ext e1).ex
  rw [hTe] at b2
  simp (disch := omega) only [SX, Nat.reduceAdd, h0, LD_45 (b1.cell (i := 0) rfl)]
  refine CALL_of (trie_Nodes b2) ?_
  rintro v w1 ⟨rfl, rfl⟩
  have hhi : hi ≤ w.heap.size := by obtain ⟨_, _, _, _, _, h⟩ := hB.ex; exact h
  generalize hsb : w.heap.size = sb at *
  refine ⟨fun iv w2 => ∃ (i : Nat) (rv : Value), iv = .int .i64 i ∧ i ≤ T.length ∧ Own w2 sb [.pointer (some ⟨b, 0, none⟩), rv] 160 ∧ w2.ownsRow sb 161 2 rv i ((List.replicate i (least, least)).flatMap pcells) ∧ (∀ k, rv.ownBlock = some k → k ≠ sb) ∧ Chg (fun i => sb ≤ i) w1 w2, fun iv _ => T.length - vnat iv,
    ⟨0, _, rfl, Nat.zero_le _, o1, World.ownsRow_nil _ _ _ _, fun k hk => by simp [Value.ownBlock] at hk, Chg.refl _ _⟩, ?_⟩
  rintro iv w2 ⟨i, rv, rfl, hi', o2, r2, n2, c2⟩
  have hB2 := (hB.ext e1).chg c2 (fun q hq => by omega)
  by_cases hlt : i < T.length
  · have hlt' : (i : Int) < (T.length : Int) := by omega
    obtain ⟨Ar, cr, rfl, hcr⟩ := row_shape r2
    try simp (disch := omega) only [SX, Nat.reduceAdd, hlt']
    refine ⟨KP (fun _ => False) w2, KP.refl _ _, ?_⟩
    simp (disch := omega) only [SX, Nat.reduceAdd, RK_158 (X := fun _ => False) (o2.cell (i := 1) rfl) (fun x => x) (KP.refl _ _)]
    refine CALL_of (back_Least (hB2.ext (Ext.drew _))) ?_
    rintro v w3 ⟨rfl, rfl⟩
    refine KEEP (KP.refl _ _) ?_
    refine CALL_of (back_Least (hB2.ext (Ext.drew _))) ?_
    rintro v w3 ⟨rfl, rfl⟩
    refine KEEP (KP.refl _ _) ?_
    simp (disch := omega) only [SX, Nat.reduceAdd]
    refine BS_158_1 fun w4 o4 e4 z4 => ?_
    have e4 : Ext w2 w4 := e4.of_drew
    refine KEEP (KP.of_ext e4) ?_
    have r4 := row_ext r2 e4
    have z2 := c2.size
    have z1' := e1.size
    refine APPEND (by kernel_rfl) IN_161 rfl (by omega) r4 (news := pcells (least, least)) (by simp [pcells]) (fun q u hq => by rw [addr_add]; exact o4.cell (by simpa [pcells] using hq)) (by simp [pcells, Value.oneCell']) (by omega) (by unfold maxLen; omega) (by omega) (by have := e4.size; have := o2.lt; omega) fun g cap w5 o5 c5 g5 => ?_
    try simp (disch := omega) only [SX, Nat.reduceAdd]
    have hb4 := o2.ext e4
    have hb5 := hb4.chg c5 (fun hk => n2 sb hk.symm rfl)
    refine STORE SZ_158 hb5 (by simp) rfl rfl fun w6 o6 c6 z6 => ?_
    try simp (disch := omega) only [SX, Nat.reduceAdd]
    have hgn : g ≠ sb := by
      rcases g5 with g5 | g5
      · exact n2 g g5
      · have := hb4.lt; omega
    refine ⟨⟨i + 1, _, by simp, by omega, o6, ?_, fun q hq => ?_, ?_⟩, by simp only [vnat_int]; omega⟩
    · rw [rep_snoc, List.flatMap_append]
      have := row_chg o5 c6 (fun q hq hq2 => by simp [Value.ownBlock] at hq; omega)
      simpa [pcells] using this
    · simp [Value.ownBlock] at hq; omega
    · exact (((c2.then (e4.chg (S := fun i => sb ≤ i)) (fun _ _ x => x) (fun _ _ x => x)).then c5 (fun _ _ x => x) (fun q _ hq => row_base r4 q hq)).then c6 (fun _ _ x => x) (fun q _ hq => by omega))
  · have hlt' : ¬ (i : Int) < (T.length : Int) := by omega
    obtain rfl : i = T.length := by omega
    try simp (disch := omega) only [SX, Nat.reduceAdd, hlt']
    have hlr : (List.replicate T.length (least, least)).length = T.length := by simp
    have hlp : 1 ≤ least := by omega
    have hF0 : FarB T least (List.replicate T.length (least, least)) := ⟨by simp, fun x hx => by
      have := List.eq_of_mem_replicate hx
      subst this
      simp only
      omega⟩
    have z2 := c2.size
    have hS0 : IsShifts w2 sb w2.heap.size sb b (List.replicate T.length (least, least)) := ⟨rv, o2, by rw [hlr]; exact r2, ⟨Nat.le_refl _, o2.lt, Nat.le_refl _⟩, fun q hq => ⟨(r2.lt q hq).2, n2 q hq⟩⟩
    generalize hhi2 : w2.heap.size = h2 at *
    have e1' : Chg (fun i => sb ≤ i) w w2 := (e1.chg (S := fun i => sb ≤ i)).then c2 (fun _ _ x => x) (fun _ _ x => x)
    refine ⟨fun xv w3 => ∃ (x : Nat) (F : List (Int × Int)), xv = .int .i64 ((x + 1 : Nat) : Int) ∧ x + 1 ≤ T.length ∧ IsShifts w3 sb h2 sb b F ∧ FarB T least F ∧ (∀ x' : Nat, 0 < x' → x' ≤ x → ∀ n, 1 ≤ n → n ≤ (pathM T x').length → hitF T F x' n) ∧ Chg (fun i => sb ≤ i) w w3 ∧ h2 ≤ w3.heap.size, fun xv _ => T.length + 1 - vnat xv,
      ⟨0, _, rfl, by omega, hS0, hF0, fun x' h1 h2 => by omega, e1', by omega⟩, ?_⟩
    rintro xv w3 ⟨x, F, rfl, hx, hS3, hF3, hh3, c3, z3⟩
    have hB3 := hB.chg c3 (fun q hq => by omega)
    obtain ⟨tb3, q1, q2, _⟩ := id hB3.ex
    rw [hTe] at q2
    simp (disch := omega) only [SX, Nat.reduceAdd, LD_45 (q1.cell (i := 0) rfl)]
    refine CALL_of (trie_Nodes q2) ?_
    rintro v w3 ⟨rfl, rfl⟩
    by_cases hxl : x + 1 < T.length
    · have hxl' : ((x + 1 : Nat) : Int) < (T.length : Int) := by omega
      simp (disch := omega) only [SX, Nat.reduceAdd, hxl']
      have hB3' : IsBack w3 lo sb b us least N := by
        obtain ⟨⟨tb, h1, h2, h3, h4, h5⟩, h6⟩ := hB3
        exact ⟨⟨tb, h1, h2.mono (Nat.le_refl _) hhi, h3, by omega, by have := c3.size; omega⟩, h6⟩
      refine CALL_of (shifts_goes (x := x + 1) hB3' hS3 (by rw [hTe]; exact hF3) (by rw [hTe]; exact hbig) (by rw [hTe]; omega)) ?_
      rw [hTe]
      rintro v w4 ⟨⟨F', hS4, hF4, hle, hh4⟩, c4⟩
      have hx1 : ((x + 1 : Nat) : Int) + 1 = ((x + 1 + 1 : Nat) : Int) := by omega
      simp (disch := omega) only [SX, Nat.reduceAdd, hx1]
      refine ⟨⟨x + 1, F', rfl, by omega, hS4, hF4, fun x' k1 k2 n k3 k4 => ?_, c3.then c4 (fun _ _ x => x) (fun q hq hq2 => by omega), by have := c4.size; omega⟩, by simp only [vnat_int]; omega⟩
      by_cases hxe : x' = x + 1
      · subst hxe; exact hh4 n k3 k4
      · exact (hh3 x' k1 (by omega) n k3 k4).mono hle (by rw [hF4.len, hF3.len])
    · have hxl' : ¬ ((x + 1 : Nat) : Int) < (T.length : Int) := by omega
      simp (disch := omega) only [SX, Nat.reduceAdd, hxl']
      have hhF : ∀ x' : Nat, 0 < x' → x' < T.length → ∀ n, 1 ≤ n → n ≤ (pathM T x').length → hitF T F x' n := fun x' h1 h2 => hh3 x' h1 (by omega)
      refine ⟨fun vv w4 => ∃ (v : Nat) (F' : List (Int × Int)), vv = .int .i64 ((v + 1 : Nat) : Int) ∧ v + 1 ≤ T.length ∧ IsShifts w4 sb h2 sb b F' ∧ FarB T least F' ∧ leF F' F ∧ (∀ x' : Nat, 0 < x' → x' < T.length → 0 ≤ wordM T x' → ∀ n, 1 ≤ n → n ≤ (pathM T x').length → ∀ (v' : Nat) y, v' ≤ v → (pathM T x').drop n <+: pathM T v' → F'[v']? = some y → y.2 ≤ n) ∧ Chg (fun i => sb ≤ i) w w4 ∧ h2 ≤ w4.heap.size, fun vv _ => T.length + 1 - vnat vv,
        ⟨0, F, rfl, by omega, hS3, hF3, leF.refl F, fun x' k1 k2 k3 n k4 k5 v' y k6 k7 k8 => ?_, c3, z3⟩, ?_⟩
      · obtain rfl : v' = 0 := by omega
        have hp0 : pathM T ((0 : Nat) : Int) = [] := path_root hT
        rw [hp0] at k7
        have := List.prefix_nil.1 k7
        refine (hhF x' k1 k2 n k4 k5 0 y ?_ k8).2 k3
        rw [this]
        rfl
      rintro vv w4 ⟨v, F', rfl, hv, hS4, hF4, hle, hend, c4, z4⟩
      have hB4 := hB.chg c4 (fun q hq => by omega)
      obtain ⟨tb4, y1, y2, _⟩ := id hB4.ex
      rw [hTe] at y2
      simp (disch := omega) only [SX, Nat.reduceAdd, LD_45 (y1.cell (i := 0) rfl)]
      refine CALL_of (trie_Nodes y2) ?_
      rintro v0 w4 ⟨rfl, rfl⟩
      by_cases hvl : v + 1 < T.length
      · have hvl' : ((v + 1 : Nat) : Int) < (T.length : Int) := by omega
        have hfl := hF4.len
        obtain ⟨rv4, s1, s2, s3, s4⟩ := id hS4.ex
        obtain ⟨g, cap, rfl, hg1, hg2⟩ := row_block s2 (by omega)
        have hgs := s4 g rfl
        obtain ⟨yn, hyn⟩ : ∃ yn, nodeM T ((v + 1 : Nat) : Int) = some yn := ⟨_, nodeM_in (by omega)⟩
        have hpar : parentM T ((v + 1 : Nat) : Int) = yn.par := by unfold parentM; rw [hyn]; rfl
        obtain ⟨hy0, hy1, hy2⟩ := nodeM_some hyn
        have hup := hT.up (v + 1) yn (by rw [show (((v + 1 : Nat) : Int)).toNat = v + 1 by omega] at hy2; exact hy2) (by omega)
        obtain ⟨zz, hpl, hpr, _⟩ := hup
        obtain ⟨u, hu⟩ : ∃ u : Nat, yn.par = (u : Int) := ⟨yn.par.toNat, by omega⟩
        have huv : u < v + 1 := by omega
        have hpath := path_up hT hyn (by omega)
        rw [hu] at hpath hpar
        have hiv : v + 1 < F'.length := by omega
        have hiu : u < F'.length := by omega
        have cv := s2.cellAt ((v + 1) * 2 + 1) (by omega)
        rw [(flat_at hiv).2] at cv
        have cu := s2.cellAt (u * 2 + 1) (by omega)
        rw [(flat_at hiu).2] at cu
        have h1n : (1 : Int).toNat = 1 := rfl
        have hltb : b < w4.heap.size := y1.lt
        simp (disch := omega) only [SX, Nat.reduceAdd, hvl']
        refine ⟨KP (fun _ => False) w4, KP.refl _ _, ?_⟩
        simp (disch := omega) only [SX, Nat.reduceAdd, Nat.zero_add, h1n, RK_158 (X := fun _ => False) (s1.cell (i := 1) rfl) (fun x => x) (KP.refl _ _), RK_45 (X := fun _ => False) (y1.cell (i := 0) rfl) (fun x => x) (KP.refl _ _), RK_3 (X := fun _ => False) cv (fun x => x) (KP.refl _ _)]
        refine CALL_of (trie_Parent (y2.ext (Ext.drew _)) _) ?_
        rintro v0 w5 ⟨rfl, rfl⟩
        refine KEEP (KP.refl _ _) ?_
        rw [hpar]
        simp (disch := omega) only [SX, Nat.reduceAdd, Nat.zero_add, h1n, RK_3 (X := fun _ => False) cu (fun x => x) (KP.refl _ _)]
        have s2' := row_ext s2 (Ext.drew w4)
        refine STOREROW SZ_3 s2' (j := (v + 1) * 2 + 1) (by omega) rfl rfl fun w6 r6 c6 z6 => ?_
        have c6 : Chg (fun k => k = g) w4 w6 := c6.of_drew
        rw [(flat_pair hiv _).2] at r6
        have hokv := hF4.ok F'[v + 1] (List.getElem_mem hiv)
        have hoku := hF4.ok F'[u] (List.getElem_mem hiu)
        obtain ⟨hF6, hle6⟩ := setF_ok hF4 hiv (y := (F'[v + 1].1, min F'[v + 1].2 F'[u].2)) ⟨by simp only; omega, by simp only; omega⟩ ⟨by simp only; omega, by simp only; omega⟩
        have hlen6 : (F'.set (v + 1) (F'[v + 1].1, min F'[v + 1].2 F'[u].2)).length = F'.length := List.length_set
        have hv1 : ((v + 1 : Nat) : Int) + 1 = ((v + 1 + 1 : Nat) : Int) := by omega
        try simp (disch := omega) only [SX, Nat.reduceAdd, hv1]
        refine ⟨⟨v + 1, _, vi (by omega), by omega, ⟨.slice (some ⟨g, 0, none⟩) F'.length cap, s1.chg c6 (by omega), by rw [hlen6]; exact r6, ⟨by omega, by omega, by have := c6.size; omega⟩, s4⟩, hF6, hle6.trans hle hlen6, fun x' k1 k2 k3 n k4 k5 v' y k6 k7 k8 => ?_, c4.then c6 (fun _ _ x => x) (fun q _ hq => by omega), by have := c6.size; omega⟩, by simp only [vnat_int]; omega⟩
        rw [List.getElem?_set] at k8
        split at k8
        · rename_i hve
          subst hve
          first | rw [if_pos hiv] at k8 | skip
          injection k8 with k8
          subst k8
          simp only
          rw [hpath] at k7
          rcases List.prefix_concat_iff.1 k7 with heq | hpre
          · have := hhF x' k1 k2 n k4 k5 (v + 1) (F[v + 1]'(by have := hF3.len; omega)) (by
              rw [heq, ← hpath, find_of hT (by omega) (by omega)]) (List.getElem?_eq_getElem _)
            have h2 := this.2 k3
            have h3 := hle (v + 1) F'[v + 1] _ (List.getElem?_eq_getElem hiv) (List.getElem?_eq_getElem (by have := hF3.len; omega))
            omega
          · have := hend x' k1 k2 k3 n k4 k5 u F'[u] (by omega) hpre (List.getElem?_eq_getElem hiu)
            omega
        · rename_i hve
          exact hend x' k1 k2 k3 n k4 k5 v' y (by omega) k7 k8
      · have hvl' : ¬ ((v + 1 : Nat) : Int) < (T.length : Int) := by omega
        simp (disch := omega) only [SX, Nat.reduceAdd, hvl']
        have hext : Ext w w4 := c4.weaken fun q hq hq2 => by omega
        have hS5 : IsShifts w4 sb w4.heap.size sb b F' := by
          obtain ⟨rv, h1, h2', h3, h4⟩ := hS4.ex
          exact ⟨rv, h1, h2', ⟨h3.1, by omega, Nat.le_refl _⟩, fun q hq => by have := h4 q hq; omega⟩
        refine k _ _ ⟨⟨sb, F', rfl, hS5, fun _ => ⟨hF4, fun x' h1 h2 n h3 h4 => (hhF x' h1 h2 n h3 h4).mono hle (by rw [hF4.len, hF3.len]), fun x' k1 k2 k3 n k4 k5 v' y k7 k8 => hend x' k1 k2 k3 n k4 k5 v' y ?_ k7 k8⟩⟩, hext⟩
        have := (List.getElem?_eq_some_iff.1 k8).1
        have := hF4.len
        omega
end
end Go.Proofs.Ytopdjdkkhpkmiaa.Y
