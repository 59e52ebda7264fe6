import Derived.Test.YtgjfhmahiiokeaaGreatBack
import Derived.Test.YtgjfhmahiiokeaaGreatTwo
set_option linter.unusedVariables false
set_option linter.unusedSimpArgs false
set_option linter.unusedVariables false
set_option linter.unusedSimpArgs false
set_option maxRecDepth 8000
namespace Go.Proofs.YtgjfhmahiiokeaaGreat.Y
open Go Go.Sx

/-! ### How far a window may be moved -/
structure FarB (T : List TN) (m : Int) (F : List (Int × Int)) : Prop where
  len : F.length = T.length
  ok : ∀ x ∈ F, 1 ≤ x.1 ∧ x.1 ≤ m ∧ 1 ≤ x.2 ∧ x.2 ≤ m
def leF (F' F : List (Int × Int)) : Prop := ∀ (v : Nat) x y, F'[v]? = some x → F[v]? = some y → x.1 ≤ y.1 ∧ x.2 ≤ y.2
theorem leF.refl (F : List (Int × Int)) : leF F F := fun v x y h k => by rw [h] at k; injection k with k; subst k; omega
theorem leF.trans {F G H : List (Int × Int)} (h : leF F G) (k : leF G H) (hl : F.length = G.length) : leF F H := fun v x y hx hy => by
  have hv : v < F.length := (List.getElem?_eq_some_iff.1 hx).1
  have hg : G[v]? = some (G[v]'(by omega)) := List.getElem?_eq_getElem (by omega)
  have := h v x _ hx hg
  have := k v _ y hg hy
  omega
/-- What a node that another goes on with has to bear. -/
def hitF (T : List TN) (F : List (Int × Int)) (x : Int) (n : Nat) : Prop := ∀ (v : Nat) y, (v : Int) = findM T ((pathM T x).drop n) → F[v]? = some y → y.1 ≤ n ∧ (0 ≤ wordM T x → y.2 ≤ n)
theorem hitF.mono {T : List TN} {F F' : List (Int × Int)} {x : Int} {n : Nat} (h : hitF T F x n) (hle : leF F' F) (hl : F'.length = F.length) : hitF T F' x n := fun v y hv hy => by
  have hb : v < F'.length := (List.getElem?_eq_some_iff.1 hy).1
  have hg : F[v]? = some (F[v]'(by omega)) := List.getElem?_eq_getElem (by omega)
  have h1 := h v _ hv hg
  have h2 := hle v y _ hy hg
  exact ⟨by omega, fun hw => by have := h1.2 hw; omega⟩

structure IsShifts (w : World) (lo hi sb : Nat) (bb : Nat) (F : List (Int × Int)) : Prop where
  ex : ∃ rv, Own w sb [.pointer (some ⟨bb, 0, none⟩), rv] 158 ∧ w.ownsRow lo 159 2 rv F.length (F.flatMap pcells) ∧ (lo ≤ sb ∧ sb < hi ∧ hi ≤ w.heap.size) ∧ ∀ k, rv.ownBlock = some k → k < hi ∧ k ≠ sb
theorem IsShifts.chg {S : Nat → Prop} {w w' : World} {lo hi sb bb : Nat} {F : List (Int × Int)} (h : IsShifts w lo hi sb bb F) (hc : Chg S w w') (hs : ∀ i, S i → i < lo ∨ hi ≤ i) : IsShifts w' lo hi sb bb F := by
  obtain ⟨rv, h1, h2, h3, h4⟩ := h.ex
  have := hc.size
  exact ⟨rv, h1.chg hc (fun hS => by have := hs _ hS; omega), row_chg h2 hc (fun k hk hS => by have := hs _ hS; have := h4 k hk; have := row_base h2 k hk.symm; omega), by omega, h4⟩
theorem IsShifts.ext {w w' : World} {lo hi sb bb : Nat} {F : List (Int × Int)} (h : IsShifts w lo hi sb bb F) (hc : Ext w w') : IsShifts w' lo hi sb bb F := h.chg hc fun _ x => x.elim

theorem flat_pair {F : List (Int × Int)} {i : Nat} (hi : i < F.length) (x : Int) : (F.flatMap pcells).set (i * 2) (.int .i64 x) = (F.set i (x, F[i].2)).flatMap pcells ∧ (F.flatMap pcells).set (i * 2 + 1) (.int .i64 x) = (F.set i (F[i].1, x)).flatMap pcells := by
  induction F generalizing i with
  | nil => simp at hi
  | cons y F ih =>
    cases i with
    | zero => simp [pcells]
    | succ i =>
      simp only [List.length_cons] at hi
      obtain ⟨h1, h2⟩ := ih (i := i) (by omega)
      simp only [List.flatMap_cons, List.set_cons_succ, List.getElem_cons_succ]
      rw [List.set_append_right _ _ (by simp [pcells]; omega), List.set_append_right _ _ (by simp [pcells]; omega)]
      have e1 : (i + 1) * 2 - (pcells y).length = i * 2 := by simp [pcells]; omega
      have e2 : (i + 1) * 2 + 1 - (pcells y).length = i * 2 + 1 := by simp [pcells]; omega
      rw [e1, e2, h1, h2]
      exact ⟨rfl, rfl⟩

section
variable {w : World}

theorem shifts_less {base g n cap j : Nat} {xs : List Value} {x : Int} (m : Int) (h : w.ownsRow base 159 2 (.slice (some ⟨g, 0, none⟩) n cap) n xs) (hj : j < n * 2) (hx : xs[j]? = some (.int .i64 x)) :
    RET Tryz.prog 94 [.pointer (some ⟨g, j, none⟩), .int .i64 m] w fun v w' => v = .tuple #[] ∧ w'.ownsRow base 159 2 (.slice (some ⟨g, 0, none⟩) n cap) n (xs.set j (.int .i64 (min x m))) ∧ Chg (fun k => k = g) w w' := by
  refine RET_by fun R k => ?_
  apply by_shifts_Shifts_goes_1
  unfold sh_shifts_Shifts_goes_1
  have hc := h.cellAt j (by have := h.1; omega)
  rw [hx] at hc
  simp (disch := omega) only [SX, Nat.reduceAdd, LD_3 hc]
  refine STOREROW SZ_3 h hj rfl rfl fun w1 o1 c1 z1 => ?_
  exact k _ _ ⟨rfl, o1, c1⟩

theorem setF_ok {T : List TN} {m : Int} {F : List (Int × Int)} (h : FarB T m F) {i : Nat} (hi : i < F.length) {y : Int × Int} (h1 : 1 ≤ y.1 ∧ y.1 ≤ F[i].1) (h2 : 1 ≤ y.2 ∧ y.2 ≤ F[i].2) : FarB T m (F.set i y) ∧ leF (F.set i y) F := by
  have hi' := h.ok F[i] (List.getElem_mem hi)
  refine ⟨⟨by rw [List.length_set]; exact h.len, fun x hx => ?_⟩, fun v a b ha hb => ?_⟩
  · rcases List.mem_or_eq_of_mem_set hx with hx | rfl
    · exact h.ok x hx
    · omega
  · rw [List.getElem?_set] at ha
    split at ha
    · rename_i he
      subst he
      injection ha with ha
      subst ha
      rw [List.getElem?_eq_getElem hi] at hb
      injection hb with hb
      subst hb
      omega
    · rw [ha] at hb; injection hb with hb; subst hb; omega

theorem flat_at {F : List (Int × Int)} {i : Nat} (hi : i < F.length) : (F.flatMap pcells)[i * 2]? = some (.int .i64 F[i].1) ∧ (F.flatMap pcells)[i * 2 + 1]? = some (.int .i64 F[i].2) :=
  ⟨flatMap_get pcells_len hi (j := 0) (by omega), flatMap_get pcells_len hi (j := 1) (by omega)⟩

/-- All nodes that one goes on are told how far it is ahead. -/
theorem shifts_goes {lo mid hi bb sb : Nat} {us : List (List UInt8)} {least : Int} {N : List Int} {F : List (Int × Int)} (hB : IsBack w lo mid bb us least N) (hS : IsShifts w mid hi sb bb F) (hF : FarB (trieM us) least F) (hbig : (trieM us).length ≤ 2 ^ 30) (x : Nat) (hx : 0 < x ∧ x < (trieM us).length) :
    RET Tryz.prog 83 [.pointer (some ⟨sb, 0, none⟩), .int .i64 x] w fun v w' => (∃ F', IsShifts w' mid hi sb bb F' ∧ FarB (trieM us) least F' ∧ leF F' F ∧ ∀ n, 1 ≤ n → n ≤ (pathM (trieM us) x).length → hitF (trieM us) F' x n) ∧ Chg (fun i => mid ≤ i ∧ i < hi ∨ w.heap.size ≤ i) w w' := by
  have hT := (trie_for us).ok
  generalize hTe : trieM us = T at *
  refine RET_by fun R k => ?_
  apply by_shifts_Shifts_goes
  unfold sh_shifts_Shifts_goes
  obtain ⟨rv, s1, s2, s3, s4⟩ := id hS.ex
  obtain ⟨tb, b1, b2, b3, b4, b5⟩ := id hB.ex
  rw [hTe] at b2
  have hmid : mid ≤ w.heap.size := b5
  simp (disch := omega) only [SX, Nat.reduceAdd, LD_115 (s1.cell (i := 0) rfl), LD_90 (b1.cell (i := 0) rfl)]
  refine CALL_of (trie_PathR b2 x) ?_
  rintro pv w1 ⟨⟨pm, hpr, hpl⟩, e1⟩
  obtain ⟨hp', rfl⟩ := SlB.of_row hpr hpl
  obtain ⟨Ap, cp, rfl⟩ := hp'.shape
  have hpb : ∀ q, (Value.slice Ap (pathM T x).length cp).ownBlock = some q → w.heap.size ≤ q := fun q hq => row_base hpr q hq.symm
  have z1 := e1.size
  have hlc : (pathM T x).length ≤ cp := by obtain ⟨_, _, he, _, h1, _⟩ := hp'; injection he with _ _ e3; omega
  have hhi : hi ≤ w.heap.size := s3.2.2
  refine ⟨fun nv w2 => ∃ (n : Nat) (F' : List (Int × Int)), nv = .int .i64 ((n + 1 : Nat) : Int) ∧ n ≤ (pathM T x).length ∧ IsShifts w2 mid hi sb bb F' ∧ FarB T least F' ∧ leF F' F ∧ (∀ n', 1 ≤ n' → n' ≤ n → hitF T F' x n') ∧ SlB w2 (.slice Ap (pathM T x).length cp) (pathM T x) ∧ Chg (fun i => mid ≤ i ∧ i < hi) w1 w2, fun nv _ => (pathM T x).length + 1 - vnat nv,
    ⟨0, F, rfl, Nat.zero_le _, hS.ext e1, hF, leF.refl F, fun n' h1 h2 => by omega, hp', Chg.refl _ _⟩, ?_⟩
  rintro nv w2 ⟨n, F', rfl, hn, hS2, hF2, hle, hhit, hp2, c2⟩
  have hB2 := (hB.ext e1).chg c2 (fun i hi => by omega)
  obtain ⟨rv2, t1, t2, t3, t4⟩ := id hS2.ex
  obtain ⟨tb2, q1, q2, q3, q4, q5⟩ := id hB2.ex
  rw [hTe] at q2
  by_cases hlt : n < (pathM T x).length
  · have hlt' : ((n + 1 : Nat) : Int) ≤ ((pathM T x).length : Int) := by omega
    simp (disch := omega) only [SX, Nat.reduceAdd, DRAWQ, hlt', RD_115 (t1.cell (i := 0) rfl), RD_90 (q1.cell (i := 0) rfl)]
    have hsub := slB_drop (hp2.ext (Ext.drew w2)) (a := n + 1) (by omega)
    refine CALL_of (trie_Find (q2.ext (Ext.drew w2)) hsub) ?_
    rintro v w3 ⟨rfl, rfl⟩
    by_cases hneg : findM T ((pathM T x).drop (n + 1)) < 0
    · simp (disch := omega) only [SX, Nat.reduceAdd, hneg]
      refine ⟨⟨n + 1, F', vi (by omega), by omega, hS2.ext (Ext.drew _), hF2, hle, fun n' h1 h2 => ?_, hp2.ext (Ext.drew _), c2.drew⟩, by simp only [vnat_int]; omega⟩
      by_cases he : n' = n + 1
      · subst he
        intro v y hv hy
        omega
      · exact hhit n' h1 (by omega)
    · obtain ⟨v, hv⟩ : ∃ v : Nat, findM T ((pathM T x).drop (n + 1)) = (v : Int) := ⟨(findM T ((pathM T x).drop (n + 1))).toNat, by omega⟩
      have hvlt : v < F'.length := by have := (findM_lo hT.pos ((pathM T x).drop (n + 1))).2; have := hF2.len; omega
      have hfl := hF2.len
      obtain ⟨g, cap, rfl, hg1, hg2⟩ := row_block t2 (by omega)
      have hgs := t4 g rfl
      have t1' := t1.drew
      have t2' := row_ext t2 (Ext.drew w2)
      simp (disch := omega) only [SX, Nat.reduceAdd, hv, show ¬ ((v : Int) < 0) by omega, LD_156 (t1'.cell (i := 1) rfl), Nat.zero_add, Int.toNat_zero, Nat.add_zero]
      obtain ⟨k1, k2⟩ := flat_at hvlt
      have hok := hF2.ok F'[v] (List.getElem_mem hvlt)
      refine CALLV_of (first := #[]) (captured := #[]) (shifts_less ((n + 1 : Nat) : Int) t2' (j := v * 2) (by omega) k1) ?_
      rintro v' w4 ⟨rfl, r4, c4⟩
      rw [(flat_pair hvlt _).1] at r4
      have c4 : Chg (fun k => k = g) w2 w4 := c4.of_drew
      obtain ⟨hF4, hle4⟩ := setF_ok hF2 hvlt (y := (min F'[v].1 ((n + 1 : Nat) : Int), F'[v].2)) ⟨by simp only; omega, by simp only; omega⟩ ⟨by simp only; omega, by simp only; omega⟩
      have t14 := t1.chg c4 (by omega)
      have hlen4 : (F'.set v (min F'[v].1 ((n + 1 : Nat) : Int), F'[v].2)).length = F'.length := List.length_set
      have hget4 : (F'.set v (min F'[v].1 ((n + 1 : Nat) : Int), F'[v].2))[v]? = some (min F'[v].1 ((n + 1 : Nat) : Int), F'[v].2) := by rw [List.getElem?_set, if_pos rfl, if_pos hvlt]
      generalize hF4e : F'.set v (min F'[v].1 ((n + 1 : Nat) : Int), F'[v].2) = F4 at *
      have r4 : w4.ownsRow mid 159 2 (.slice (some ⟨g, 0, none⟩) F4.length cap) F4.length (F4.flatMap pcells) := by rw [hlen4]; exact r4
      have z4 := c4.size
      have hS4 : IsShifts w4 mid hi sb bb F4 := ⟨_, by rw [hlen4]; exact t14, r4, ⟨by omega, by omega, by omega⟩, fun k hk => t4 k hk⟩
      have hB4 := hB2.chg c4 (fun i hi => by omega)
      obtain ⟨tb4, y1, y2, y3, y4, y5⟩ := id hB4.ex
      rw [hTe] at y2
      have hp4 := hp2.chg c4 (fun q hq hq2 => by have := hpb q hq; omega)
      have hle04 : leF F4 F := hle4.trans hle hlen4
      simp (disch := omega) only [SX, Nat.reduceAdd, LD_115 (t14.cell (i := 0) rfl)]
      refine CALL_of (back_Whole hB4 (x : Int)) ?_
      rintro v5 w4 ⟨rfl, rfl⟩
      rw [hTe]
      have oldhit : ∀ n', 1 ≤ n' → n' ≤ n → hitF T F4 x n' := fun n' h1 h2 => (hhit n' h1 h2).mono hle4 hlen4
      have hvu : ∀ v' : Nat, (v' : Int) = findM T ((pathM T x).drop (n + 1)) → v' = v := fun v' h => by omega
      by_cases hwd : 0 ≤ wordM T x
      · have t14' : Own w4 sb [.pointer (some ⟨bb, 0, none⟩), .slice (some ⟨g, 0, none⟩) F4.length cap] 158 := by rw [hlen4]; exact t14
        simp (disch := omega) only [SX, Nat.reduceAdd, hwd, LD_156 (t14'.cell (i := 1) rfl), Nat.zero_add]
        have hv4 : v < F4.length := by omega
        have hge : F4[v] = (min F'[v].1 ((n + 1 : Nat) : Int), F'[v].2) := by
          rw [List.getElem?_eq_getElem hv4] at hget4
          exact Option.some.inj hget4
        obtain ⟨k3, k4⟩ := flat_at hv4
        have h1n : (1 : Int).toNat = 1 := rfl
        have hok4 := hF4.ok F4[v] (List.getElem_mem hv4)
        try simp only [h1n]
        refine CALLV_of (first := #[]) (captured := #[]) (shifts_less ((n + 1 : Nat) : Int) r4 (j := v * 2 + 1) (by omega) k4) ?_
        rintro v' w6 ⟨rfl, r6, c6⟩
        rw [(flat_pair hv4 _).2] at r6
        obtain ⟨hF6, hle6⟩ := setF_ok hF4 hv4 (y := (F4[v].1, min F4[v].2 ((n + 1 : Nat) : Int))) ⟨by simp only; omega, by simp only; omega⟩ ⟨by simp only; omega, by simp only; omega⟩
        have hlen6 : (F4.set v (F4[v].1, min F4[v].2 ((n + 1 : Nat) : Int))).length = F4.length := List.length_set
        have hget6 : (F4.set v (F4[v].1, min F4[v].2 ((n + 1 : Nat) : Int)))[v]? = some (F4[v].1, min F4[v].2 ((n + 1 : Nat) : Int)) := by rw [List.getElem?_set, if_pos rfl, if_pos hv4]
        have t16 := t14'.chg c6 (by omega)
        have z6 := c6.size
        have hS6 : IsShifts w6 mid hi sb bb (F4.set v (F4[v].1, min F4[v].2 ((n + 1 : Nat) : Int))) := ⟨.slice (some ⟨g, 0, none⟩) F4.length cap, t16, by rw [hlen6]; exact r6, ⟨by omega, by omega, by omega⟩, fun k hk => t4 k hk⟩
        try simp (disch := omega) only [SX, Nat.reduceAdd]
        refine ⟨⟨n + 1, _, vi (by omega), by omega, hS6, hF6, hle6.trans hle04 hlen6, fun n' h1 h2 => ?_, hp4.chg c6 (fun q hq hq2 => by have := hpb q hq; omega), (c2.then c4 (fun _ _ x => x) (fun _ _ x => by omega)).then c6 (fun _ _ x => x) (fun _ _ x => by omega)⟩, by simp only [vnat_int]; omega⟩
        by_cases he : n' = n + 1
        · subst he
          intro v' y hv' hy
          obtain rfl := hvu v' hv'
          rw [hget6] at hy
          injection hy with hy
          subst hy
          rw [hge]
          exact ⟨by simp only; omega, fun _ => by simp only; omega⟩
        · exact (oldhit n' h1 (by omega)).mono hle6 hlen6
      · simp (disch := omega) only [SX, Nat.reduceAdd, hwd]
        refine ⟨⟨n + 1, F4, vi (by omega), by omega, hS4, hF4, hle04, fun n' h1 h2 => ?_, hp4, c2.then c4 (fun _ _ x => x) (fun _ _ x => by omega)⟩, by simp only [vnat_int]; omega⟩
        by_cases he : n' = n + 1
        · subst he
          intro v' y hv' hy
          obtain rfl := hvu v' hv'
          rw [hget4] at hy
          injection hy with hy
          subst hy
          exact ⟨by simp only; omega, fun h => (hwd h).elim⟩
        · exact oldhit n' h1 (by omega)
  · have hlt' : ¬ ((n + 1 : Nat) : Int) ≤ ((pathM T x).length : Int) := by omega
    simp (disch := omega) only [SX, Nat.reduceAdd, hlt']
    refine k _ _ ⟨⟨F', hS2, hF2, hle, fun n' h1 h2 => hhit n' h1 (by omega)⟩, (e1.chg (S := fun i => mid ≤ i ∧ i < hi ∨ w.heap.size ≤ i)).then c2 (fun _ _ x => x) (fun _ _ x => .inl x)⟩
end
end Go.Proofs.YtgjfhmahiiokeaaGreat.Y
set_option linter.unusedVariables false
set_option linter.unusedSimpArgs false
set_option maxRecDepth 8000
namespace Go.Proofs.YtgjfhmahiiokeaaGreat.Y
open Go Go.Sx

/-- The table of moves is sound. -/
structure FarOK (T : List TN) (m : Int) (F : List (Int × Int)) : Prop where
  b : FarB T m F
  hit : ∀ x : Nat, 0 < x → x < T.length → ∀ n, 1 ≤ n → n ≤ (pathM T x).length → hitF T F x n
  end' : ∀ x : Nat, 0 < x → x < T.length → 0 ≤ wordM T x → ∀ n, 1 ≤ n → n ≤ (pathM T x).length → ∀ (v : Nat) y, (pathM T x).drop n <+: pathM T v → F[v]? = some y → y.2 ≤ n

section
variable {w : World}

theorem rep_snoc {α : Type} (i : Nat) (a : α) : List.replicate (i + 1) a = List.replicate i a ++ [a] := List.replicate_succ'

theorem shifts_Build {lo hi b : Nat} {us : List (List UInt8)} {least : Int} {N : List Int} (hB : IsBack w lo hi b us least N) (hbig : (trieM us).length ≤ 2 ^ 30) :
    RET Tryz.prog 53 [.pointer (some ⟨b, 0, none⟩)] w fun v w' => (∃ sb F, v = .pointer (some ⟨sb, 0, none⟩) ∧ IsShifts w' w.heap.size w'.heap.size sb b F ∧ (least ≠ 0 → FarOK (trieM us) least F)) ∧ Ext w w' := by
  have hT := (trie_for us).ok
  have hlow := hB.ok.low.1
  have hsml := hB.ok.small.1
  generalize hTe : trieM us = T at *
  have hpos := hT.pos
  refine RET_by fun R k => ?_
  apply by_shifts_Build
  unfold sh_shifts_Build
  simp (disch := omega) only [SX, Nat.reduceAdd]
  refine BOXA fun w1 o1 e1 z1 => ?_
  refine CALL_of (back_Least (hB.ext e1)) ?_
  rintro v w1 ⟨rfl, rfl⟩
  by_cases h0 : least = 0
  · simp (disch := omega) only [SX, Nat.reduceAdd, h0]
    exact k _ _ ⟨⟨_, [], rfl, ⟨_, o1, World.ownsRow_nil _ _ _ _, ⟨Nat.le_refl _, by omega, Nat.le_refl _⟩, fun k hk => by simp [Value.ownBlock] at hk⟩, fun h => (h h0).elim⟩, e1⟩
  obtain ⟨tb, b1, b2, b3, b4, b5⟩ := id (hB.ext e1).ex
  rw [hTe] at b2
  simp (disch := omega) only [SX, Nat.reduceAdd, h0, LD_90 (b1.cell (i := 0) rfl)]
  refine CALL_of (trie_Nodes b2) ?_
  rintro v w1 ⟨rfl, rfl⟩
  have hhi : hi ≤ w.heap.size := by obtain ⟨_, _, _, _, _, h⟩ := hB.ex; exact h
  generalize hsb : w.heap.size = sb at *
  refine ⟨fun iv w2 => ∃ (i : Nat) (rv : Value), iv = .int .i64 i ∧ i ≤ T.length ∧ Own w2 sb [.pointer (some ⟨b, 0, none⟩), rv] 158 ∧ w2.ownsRow sb 159 2 rv i ((List.replicate i (least, least)).flatMap pcells) ∧ (∀ k, rv.ownBlock = some k → k ≠ sb) ∧ Chg (fun i => sb ≤ i) w1 w2, fun iv _ => T.length - vnat iv,
    ⟨0, _, rfl, Nat.zero_le _, o1, World.ownsRow_nil _ _ _ _, fun k hk => by simp [Value.ownBlock] at hk, Chg.refl _ _⟩, ?_⟩
  rintro iv w2 ⟨i, rv, rfl, hi', o2, r2, n2, c2⟩
  have hB2 := (hB.ext e1).chg c2 (fun q hq => by omega)
  by_cases hlt : i < T.length
  · have hlt' : (i : Int) < (T.length : Int) := by omega
    obtain ⟨Ar, cr, rfl, hcr⟩ := row_shape r2
    try simp (disch := omega) only [SX, Nat.reduceAdd, hlt']
    refine ⟨KP (fun _ => False) w2, KP.refl _ _, ?_⟩
    simp (disch := omega) only [SX, Nat.reduceAdd, RK_156 (X := fun _ => False) (o2.cell (i := 1) rfl) (fun x => x) (KP.refl _ _)]
    refine CALL_of (back_Least (hB2.ext (Ext.drew _))) ?_
    rintro v w3 ⟨rfl, rfl⟩
    refine KEEP (KP.refl _ _) ?_
    refine CALL_of (back_Least (hB2.ext (Ext.drew _))) ?_
    rintro v w3 ⟨rfl, rfl⟩
    refine KEEP (KP.refl _ _) ?_
    simp (disch := omega) only [SX, Nat.reduceAdd]
    refine BS_156_1 fun w4 o4 e4 z4 => ?_
    have e4 : Ext w2 w4 := e4.of_drew
    refine KEEP (KP.of_ext e4) ?_
    have r4 := row_ext r2 e4
    have z2 := c2.size
    have z1' := e1.size
    refine APPEND (by kernel_rfl) IN_159 rfl (by omega) r4 (news := pcells (least, least)) (by simp [pcells]) (fun q u hq => by rw [addr_add]; exact o4.cell (by simpa [pcells] using hq)) (by simp [pcells, Value.oneCell']) (by omega) (by unfold maxLen; omega) (by omega) (by have := e4.size; have := o2.lt; omega) fun g cap w5 o5 c5 g5 => ?_
    try simp (disch := omega) only [SX, Nat.reduceAdd]
    have hb4 := o2.ext e4
    have hb5 := hb4.chg c5 (fun hk => n2 sb hk.symm rfl)
    refine STORE SZ_156 hb5 (by simp) rfl rfl fun w6 o6 c6 z6 => ?_
    try simp (disch := omega) only [SX, Nat.reduceAdd]
    have hgn : g ≠ sb := by
      rcases g5 with g5 | g5
      · exact n2 g g5
      · have := hb4.lt; omega
    refine ⟨⟨i + 1, _, by simp, by omega, o6, ?_, fun q hq => ?_, ?_⟩, by simp only [vnat_int]; omega⟩
    · rw [rep_snoc, List.flatMap_append]
      have := row_chg o5 c6 (fun q hq hq2 => by simp [Value.ownBlock] at hq; omega)
      simpa [pcells] using this
    · simp [Value.ownBlock] at hq; omega
    · exact (((c2.then (e4.chg (S := fun i => sb ≤ i)) (fun _ _ x => x) (fun _ _ x => x)).then c5 (fun _ _ x => x) (fun q _ hq => row_base r4 q hq)).then c6 (fun _ _ x => x) (fun q _ hq => by omega))
  · have hlt' : ¬ (i : Int) < (T.length : Int) := by omega
    obtain rfl : i = T.length := by omega
    try simp (disch := omega) only [SX, Nat.reduceAdd, hlt']
    have hlr : (List.replicate T.length (least, least)).length = T.length := by simp
    have hlp : 1 ≤ least := by omega
    have hF0 : FarB T least (List.replicate T.length (least, least)) := ⟨by simp, fun x hx => by
      have := List.eq_of_mem_replicate hx
      subst this
      simp only
      omega⟩
    have z2 := c2.size
    have hS0 : IsShifts w2 sb w2.heap.size sb b (List.replicate T.length (least, least)) := ⟨rv, o2, by rw [hlr]; exact r2, ⟨Nat.le_refl _, o2.lt, Nat.le_refl _⟩, fun q hq => ⟨(r2.lt q hq).2, n2 q hq⟩⟩
    generalize hhi2 : w2.heap.size = h2 at *
    have e1' : Chg (fun i => sb ≤ i) w w2 := (e1.chg (S := fun i => sb ≤ i)).then c2 (fun _ _ x => x) (fun _ _ x => x)
    refine ⟨fun xv w3 => ∃ (x : Nat) (F : List (Int × Int)), xv = .int .i64 ((x + 1 : Nat) : Int) ∧ x + 1 ≤ T.length ∧ IsShifts w3 sb h2 sb b F ∧ FarB T least F ∧ (∀ x' : Nat, 0 < x' → x' ≤ x → ∀ n, 1 ≤ n → n ≤ (pathM T x').length → hitF T F x' n) ∧ Chg (fun i => sb ≤ i) w w3 ∧ h2 ≤ w3.heap.size, fun xv _ => T.length + 1 - vnat xv,
      ⟨0, _, rfl, by omega, hS0, hF0, fun x' h1 h2 => by omega, e1', by omega⟩, ?_⟩
    rintro xv w3 ⟨x, F, rfl, hx, hS3, hF3, hh3, c3, z3⟩
    have hB3 := hB.chg c3 (fun q hq => by omega)
    obtain ⟨tb3, q1, q2, _⟩ := id hB3.ex
    rw [hTe] at q2
    simp (disch := omega) only [SX, Nat.reduceAdd, LD_90 (q1.cell (i := 0) rfl)]
    refine CALL_of (trie_Nodes q2) ?_
    rintro v w3 ⟨rfl, rfl⟩
    by_cases hxl : x + 1 < T.length
    · have hxl' : ((x + 1 : Nat) : Int) < (T.length : Int) := by omega
      simp (disch := omega) only [SX, Nat.reduceAdd, hxl']
      have hB3' : IsBack w3 lo sb b us least N := by
        obtain ⟨⟨tb, h1, h2, h3, h4, h5⟩, h6⟩ := hB3
        exact ⟨⟨tb, h1, h2.mono (Nat.le_refl _) hhi, h3, by omega, by have := c3.size; omega⟩, h6⟩
      refine CALL_of (shifts_goes (x := x + 1) hB3' hS3 (by rw [hTe]; exact hF3) (by rw [hTe]; exact hbig) (by rw [hTe]; omega)) ?_
      rw [hTe]
      rintro v w4 ⟨⟨F', hS4, hF4, hle, hh4⟩, c4⟩
      have hx1 : ((x + 1 : Nat) : Int) + 1 = ((x + 1 + 1 : Nat) : Int) := by omega
      simp (disch := omega) only [SX, Nat.reduceAdd, hx1]
      refine ⟨⟨x + 1, F', rfl, by omega, hS4, hF4, fun x' k1 k2 n k3 k4 => ?_, c3.then c4 (fun _ _ x => x) (fun q hq hq2 => by omega), by have := c4.size; omega⟩, by simp only [vnat_int]; omega⟩
      by_cases hxe : x' = x + 1
      · subst hxe; exact hh4 n k3 k4
      · exact (hh3 x' k1 (by omega) n k3 k4).mono hle (by rw [hF4.len, hF3.len])
    · have hxl' : ¬ ((x + 1 : Nat) : Int) < (T.length : Int) := by omega
      simp (disch := omega) only [SX, Nat.reduceAdd, hxl']
      have hhF : ∀ x' : Nat, 0 < x' → x' < T.length → ∀ n, 1 ≤ n → n ≤ (pathM T x').length → hitF T F x' n := fun x' h1 h2 => hh3 x' h1 (by omega)
      refine ⟨fun vv w4 => ∃ (v : Nat) (F' : List (Int × Int)), vv = .int .i64 ((v + 1 : Nat) : Int) ∧ v + 1 ≤ T.length ∧ IsShifts w4 sb h2 sb b F' ∧ FarB T least F' ∧ leF F' F ∧ (∀ x' : Nat, 0 < x' → x' < T.length → 0 ≤ wordM T x' → ∀ n, 1 ≤ n → n ≤ (pathM T x').length → ∀ (v' : Nat) y, v' ≤ v → (pathM T x').drop n <+: pathM T v' → F'[v']? = some y → y.2 ≤ n) ∧ Chg (fun i => sb ≤ i) w w4 ∧ h2 ≤ w4.heap.size, fun vv _ => T.length + 1 - vnat vv,
        ⟨0, F, rfl, by omega, hS3, hF3, leF.refl F, fun x' k1 k2 k3 n k4 k5 v' y k6 k7 k8 => ?_, c3, z3⟩, ?_⟩
      · obtain rfl : v' = 0 := by omega
        have hp0 : pathM T ((0 : Nat) : Int) = [] := path_root hT
        rw [hp0] at k7
        have := List.prefix_nil.1 k7
        refine (hhF x' k1 k2 n k4 k5 0 y ?_ k8).2 k3
        rw [this]
        rfl
      rintro vv w4 ⟨v, F', rfl, hv, hS4, hF4, hle, hend, c4, z4⟩
      have hB4 := hB.chg c4 (fun q hq => by omega)
      obtain ⟨tb4, y1, y2, _⟩ := id hB4.ex
      rw [hTe] at y2
      simp (disch := omega) only [SX, Nat.reduceAdd, LD_90 (y1.cell (i := 0) rfl)]
      refine CALL_of (trie_Nodes y2) ?_
      rintro v0 w4 ⟨rfl, rfl⟩
      by_cases hvl : v + 1 < T.length
      · have hvl' : ((v + 1 : Nat) : Int) < (T.length : Int) := by omega
        have hfl := hF4.len
        obtain ⟨rv4, s1, s2, s3, s4⟩ := id hS4.ex
        obtain ⟨g, cap, rfl, hg1, hg2⟩ := row_block s2 (by omega)
        have hgs := s4 g rfl
        obtain ⟨yn, hyn⟩ : ∃ yn, nodeM T ((v + 1 : Nat) : Int) = some yn := ⟨_, nodeM_in (by omega)⟩
        have hpar : parentM T ((v + 1 : Nat) : Int) = yn.par := by unfold parentM; rw [hyn]; rfl
        obtain ⟨hy0, hy1, hy2⟩ := nodeM_some hyn
        have hup := hT.up (v + 1) yn (by rw [show (((v + 1 : Nat) : Int)).toNat = v + 1 by omega] at hy2; exact hy2) (by omega)
        obtain ⟨zz, hpl, hpr, _⟩ := hup
        obtain ⟨u, hu⟩ : ∃ u : Nat, yn.par = (u : Int) := ⟨yn.par.toNat, by omega⟩
        have huv : u < v + 1 := by omega
        have hpath := path_up hT hyn (by omega)
        rw [hu] at hpath hpar
        have hiv : v + 1 < F'.length := by omega
        have hiu : u < F'.length := by omega
        have cv := s2.cellAt ((v + 1) * 2 + 1) (by omega)
        rw [(flat_at hiv).2] at cv
        have cu := s2.cellAt (u * 2 + 1) (by omega)
        rw [(flat_at hiu).2] at cu
        have h1n : (1 : Int).toNat = 1 := rfl
        have hltb : b < w4.heap.size := y1.lt
        simp (disch := omega) only [SX, Nat.reduceAdd, hvl']
        refine ⟨KP (fun _ => False) w4, KP.refl _ _, ?_⟩
        simp (disch := omega) only [SX, Nat.reduceAdd, Nat.zero_add, h1n, RK_156 (X := fun _ => False) (s1.cell (i := 1) rfl) (fun x => x) (KP.refl _ _), RK_90 (X := fun _ => False) (y1.cell (i := 0) rfl) (fun x => x) (KP.refl _ _), RK_3 (X := fun _ => False) cv (fun x => x) (KP.refl _ _)]
        refine CALL_of (trie_Parent (y2.ext (Ext.drew _)) _) ?_
        rintro v0 w5 ⟨rfl, rfl⟩
        refine KEEP (KP.refl _ _) ?_
        rw [hpar]
        simp (disch := omega) only [SX, Nat.reduceAdd, Nat.zero_add, h1n, RK_3 (X := fun _ => False) cu (fun x => x) (KP.refl _ _)]
        have s2' := row_ext s2 (Ext.drew w4)
        refine STOREROW SZ_3 s2' (j := (v + 1) * 2 + 1) (by omega) rfl rfl fun w6 r6 c6 z6 => ?_
        have c6 : Chg (fun k => k = g) w4 w6 := c6.of_drew
        rw [(flat_pair hiv _).2] at r6
        have hokv := hF4.ok F'[v + 1] (List.getElem_mem hiv)
        have hoku := hF4.ok F'[u] (List.getElem_mem hiu)
        obtain ⟨hF6, hle6⟩ := setF_ok hF4 hiv (y := (F'[v + 1].1, min F'[v + 1].2 F'[u].2)) ⟨by simp only; omega, by simp only; omega⟩ ⟨by simp only; omega, by simp only; omega⟩
        have hlen6 : (F'.set (v + 1) (F'[v + 1].1, min F'[v + 1].2 F'[u].2)).length = F'.length := List.length_set
        have hv1 : ((v + 1 : Nat) : Int) + 1 = ((v + 1 + 1 : Nat) : Int) := by omega
        try simp (disch := omega) only [SX, Nat.reduceAdd, hv1]
        refine ⟨⟨v + 1, _, vi (by omega), by omega, ⟨.slice (some ⟨g, 0, none⟩) F'.length cap, s1.chg c6 (by omega), by rw [hlen6]; exact r6, ⟨by omega, by omega, by have := c6.size; omega⟩, s4⟩, hF6, hle6.trans hle hlen6, fun x' k1 k2 k3 n k4 k5 v' y k6 k7 k8 => ?_, c4.then c6 (fun _ _ x => x) (fun q _ hq => by omega), by have := c6.size; omega⟩, by simp only [vnat_int]; omega⟩
        rw [List.getElem?_set] at k8
        split at k8
        · rename_i hve
          subst hve
          first | rw [if_pos hiv] at k8 | skip
          injection k8 with k8
          subst k8
          simp only
          rw [hpath] at k7
          rcases List.prefix_concat_iff.1 k7 with heq | hpre
          · have := hhF x' k1 k2 n k4 k5 (v + 1) (F[v + 1]'(by have := hF3.len; omega)) (by
              rw [heq, ← hpath, find_of hT (by omega) (by omega)]) (List.getElem?_eq_getElem _)
            have h2 := this.2 k3
            have h3 := hle (v + 1) F'[v + 1] _ (List.getElem?_eq_getElem hiv) (List.getElem?_eq_getElem (by have := hF3.len; omega))
            omega
          · have := hend x' k1 k2 k3 n k4 k5 u F'[u] (by omega) hpre (List.getElem?_eq_getElem hiu)
            omega
        · rename_i hve
          exact hend x' k1 k2 k3 n k4 k5 v' y (by omega) k7 k8
      · have hvl' : ¬ ((v + 1 : Nat) : Int) < (T.length : Int) := by omega
        simp (disch := omega) only [SX, Nat.reduceAdd, hvl']
        have hext : Ext w w4 := c4.weaken fun q hq hq2 => by omega
        have hS5 : IsShifts w4 sb w4.heap.size sb b F' := by
          obtain ⟨rv, h1, h2', h3, h4⟩ := hS4.ex
          exact ⟨rv, h1, h2', ⟨h3.1, by omega, Nat.le_refl _⟩, fun q hq => by have := h4 q hq; omega⟩
        refine k _ _ ⟨⟨sb, F', rfl, hS5, fun _ => ⟨hF4, fun x' h1 h2 n h3 h4 => (hhF x' h1 h2 n h3 h4).mono hle (by rw [hF4.len, hF3.len]), fun x' k1 k2 k3 n k4 k5 v' y k7 k8 => hend x' k1 k2 k3 n k4 k5 v' y ?_ k7 k8⟩⟩, hext⟩
        have := (List.getElem?_eq_some_iff.1 k8).1
        have := hF4.len
        omega
end
end Go.Proofs.YtgjfhmahiiokeaaGreat.Y
