import Derived.Test.YtgjfhmahiiokeaaGreatDfaC
set_option linter.unusedVariables false
set_option linter.unusedSimpArgs false
set_option linter.unusedVariables false
set_option linter.unusedSimpArgs false
set_option maxRecDepth 8000
namespace Go.Proofs.YtgjfhmahiiokeaaGreat.Y
open Go Go.Sx

section
variable {w : World} {lo hi b : Nat} {ls : List (List UInt8)}

/-- The copy of a row. -/
theorem row_copy {N : List Int} {W s f n : Nat} (hn : N.length = n * W) (hs : s < n) (hf : f < n) : (N.take (s * W) ++ (N.drop (f * W)).take W ++ N.drop (s * W + W)).length = N.length ∧
    (∀ k, k < W → (N.take (s * W) ++ (N.drop (f * W)).take W ++ N.drop (s * W + W))[s * W + k]? = N[f * W + k]?) ∧ ∀ x k, x ≠ s → k < W → (N.take (s * W) ++ (N.drop (f * W)).take W ++ N.drop (s * W + W))[x * W + k]? = N[x * W + k]? := by
  have h1 : (s + 1) * W ≤ n * W := Nat.mul_le_mul_right _ hs
  have h2 : (f + 1) * W ≤ n * W := Nat.mul_le_mul_right _ hf
  rw [Nat.add_mul] at h1 h2
  have l1 : (N.take (s * W)).length = s * W := by rw [List.length_take]; omega
  have l2 : ((N.drop (f * W)).take W).length = W := by rw [List.length_take, List.length_drop]; omega
  refine ⟨by rw [List.length_append, List.length_append, l1, l2, List.length_drop]; omega, fun k hk => ?_, fun x k hx hk => ?_⟩
  · rw [List.append_assoc, List.getElem?_append_right (by omega), l1, List.getElem?_append_left (by omega), List.getElem?_take, if_pos (by omega), List.getElem?_drop]
    congr 1
    omega
  · rcases Nat.lt_or_ge x s with hl | hl
    · have := Nat.mul_le_mul_right W (show x + 1 ≤ s from hl)
      rw [Nat.add_mul] at this
      rw [List.append_assoc, List.getElem?_append_left (by omega), List.getElem?_take, if_pos (by omega)]
    · have := Nat.mul_le_mul_right W (show s + 1 ≤ x by omega)
      rw [Nat.add_mul] at this
      rw [List.getElem?_append_right (by rw [List.length_append]; omega), List.length_append, l1, l2, List.getElem?_drop]
      congr 1
      omega

theorem dfa_fill {tb lb m1 m2 : Nat} {Q : List Int} (hb : Own w b (.pointer (some ⟨tb, 0, none⟩) :: .pointer (some ⟨lb, 0, none⟩) :: (clsCells (inT ls) ++ [.slice none 0 0])) 107) (ht : IsTrie w lo m1 tb (trieM ls)) (hlk : IsLinks w m1 m2 lb (failL (trieM ls)) (outL (trieM ls)) (ownL (trieM ls)) Q) (hq : Queue (trieM ls) Q Q.length)
    (hm : lo ≤ m1 ∧ m1 ≤ m2 ∧ m2 ≤ b) (few : (trieM ls).length ≤ 160) :
    RET Tryz.prog 47 [.pointer (some ⟨b, 0, none⟩)] w fun _ w' => Chg (fun k => k = b) w w' ∧ ∃ N, DfaAt w' lo w'.heap.size b ls N ∧ ∀ s, s < (trieM ls).length → rowOK ls N s := by
  have hT := trie_for ls
  have hw := wide_le (inT ls)
  have hcl := cls_len (inT ls)
  have c0 : w.cell? ⟨b, 0, none⟩ = some (.pointer (some ⟨tb, 0, none⟩)) := hb.cell rfl
  have c2 : cellsAt w b 2 257 = some (clsCells (inT ls)) := by
    rw [cellsAt_own hb 257 2 (by simp [hcl])]
    simp only [List.drop_succ_cons, List.drop_zero]
    rw [List.take_append_of_le_length (by omega), List.take_of_length_le (by omega)]
  refine RET_by fun R k => ?_
  apply by_dfa_DFA_fill
  unfold sh_dfa_DFA_fill
  refine ⟨KP (fun _ => False) w, KP.refl _ _, ?_⟩
  simp (disch := omega) only [SX, Nat.reduceAdd, RK_90 (X := fun _ => False) c0 (fun x => x) (KP.refl _ _)]
  refine (RKA_103 (X := fun _ => False) c2 hb.lt (fun x => x) (KP.refl _ _)).mpr ?_
  refine CALL_of (trie_Nodes (ht.ext (Ext.drew _))) ?_
  rintro v w1 ⟨rfl, rfl⟩
  refine KEEP (KP.refl _ _) ?_
  refine CALL_of (classes_Len (inT ls)) ?_
  rintro v w1 ⟨rfl, e1⟩
  have e1 : Ext w w1 := (Ext.drew _).trans e1
  have hbig : (trieM ls).length * wideN (inT ls) ≤ 160 * 257 := Nat.mul_le_mul few hw.2
  have hmul : (((trieM ls).length : Nat) : Int) * (((setL (inT ls)).length + 1 : Nat) : Int) = (((trieM ls).length * wideN (inT ls) : Nat) : Int) := by rw [Int.natCast_mul]; rfl
  simp (disch := omega) only [SX, Nat.reduceAdd, hmul]
  refine MAKE (by kernel_rfl) IN_3 rfl (by omega) (by unfold maxLen; omega) fun w2 o2 e2 z2 => ?_
  generalize hL : (trieM ls).length * wideN (inT ls) = L at *
  try simp (disch := omega) only [SX, Nat.reduceAdd]
  have hb2 := (hb.ext e1).ext e2
  refine STORE SZ_105 hb2 (by simp [hcl]) rfl rfl fun w3 o3 c3 z3 => ?_
  have hset : (Value.pointer (some ⟨tb, 0, none⟩) :: .pointer (some ⟨lb, 0, none⟩) :: (clsCells (inT ls) ++ [.slice none 0 0])).set 259 (.slice (some ⟨w1.heap.size, 0, none⟩) L L) = .pointer (some ⟨tb, 0, none⟩) :: .pointer (some ⟨lb, 0, none⟩) :: (clsCells (inT ls) ++ [.slice (some ⟨w1.heap.size, 0, none⟩) L L]) := by
    rw [show (259 : Nat) = (257 + 1) + 1 from rfl, List.set_cons_succ, List.set_cons_succ, List.set_append_right _ _ (by omega), hcl]
    rfl
  rw [hset] at o3
  have hb1 := (hb.ext e1).lt
  have hlt3 : w1.heap.size < w3.heap.size := by omega
  have hsz1 := e1.size
  have ht3 := ((ht.ext e1).ext e2).chg c3 (fun i hi => by omega)
  have hl3 := ((hlk.ext e1).ext e2).chg c3 (fun i hi => by omega)
  have n3 : Own w3 w1.heap.size ((List.replicate L (0 : Int)).map vI) 3 := by
    rw [List.map_replicate]
    exact o2.chg c3 (by omega)
  have d3 : DfaAt w3 lo w3.heap.size b ls (List.replicate L 0) := ⟨⟨tb, lb, w1.heap.size, m1, m2, Q, by rw [List.length_replicate]; exact o3, ht3, hl3, hq, n3, by omega⟩, by rw [List.length_replicate, hL], few⟩
  have c33 : w3.cell? ⟨b, 1, none⟩ = some (.pointer (some ⟨lb, 0, none⟩)) := o3.cell rfl
  have c13 : Chg (fun k => k = b) w w3 := ((e1.trans e2).chg (S := fun k => k = b)).then c3 (fun _ _ x => x) (fun _ _ x => x)
  have cN3 : w3.cell? ⟨b, 259, none⟩ = some (.slice (some ⟨w1.heap.size, 0, none⟩) L L) := o3.cell (by
    rw [show (259 : Nat) = (257 + 1) + 1 from rfl, List.getElem?_cons_succ, List.getElem?_cons_succ, List.getElem?_append_right (by omega), hcl]
    rfl)
  simp (disch := omega) only [SX, Nat.reduceAdd, LD_92 c33]
  refine CALL_of (links_Order hl3) ?_
  rintro ov w4 ⟨hov, e4, hfresh⟩
  obtain ⟨Ao, co, rfl⟩ := hov.shape
  generalize hnb : w1.heap.size = nb at *
  generalize hH : w3.heap.size = H at *
  have hqn : Q.length ≤ (trieM ls).length := nodup_le _ _ hq.nodup hq.inn
  simp (disch := omega) only [SX, Nat.reduceAdd]
  refine ⟨fun iv w5 => ∃ (i : Nat) (N : List Int), iv = .int .i64 i ∧ i ≤ Q.length ∧ DfaAt w5 lo H b ls N ∧ N.length = L ∧ Chg (fun k => k = nb) w4 w5 ∧ (∀ x : Nat, x < (trieM ls).length → ((x : Int) ∈ Q.take i → rowOK ls N x) ∧ ((x : Int) ∉ Q.take i → ∀ k, k < wideN (inT ls) → N[x * wideN (inT ls) + k]? = some 0)),
    fun iv _ => Q.length - vnat iv, ⟨0, _, rfl, Nat.zero_le _, d3.ext e4, by simp, Chg.refl _ _, fun x hx => ⟨by simp, fun _ k hk => ?_⟩⟩, ?_⟩
  · have := row_in hx hk
    rw [List.getElem?_replicate, if_pos (by omega)]
  rintro iv w5 ⟨i, N, rfl, hi, d5, hNl, c45, hrows⟩
  have hov5 := hov.chg c45 (fun k hk => by have := hfresh k hk; omega)
  by_cases hlt : i < Q.length
  · have hlt' : (i : Int) < (Q.length : Int) := by omega
    obtain ⟨bq, oq, cq', hv, hcell⟩ := hov5.at hlt
    injection hv with hA _ hc
    subst hA hc
    obtain ⟨s, hse⟩ : ∃ s, s = Q[i].toNat := ⟨_, rfl⟩
    have hxi : Q[i]? = some Q[i] := List.getElem?_eq_getElem hlt
    have hxin := hq.inn _ (List.mem_of_getElem? hxi)
    have hse' : Q[i] = (s : Int) := by omega
    have hsn : s < (trieM ls).length := by omega
    rw [hse'] at hxi hcell
    have cN5 : w5.cell? ⟨b, 259, none⟩ = some (.slice (some ⟨nb, 0, none⟩) N.length N.length) := by
      rw [hNl]
      exact c45.cell (e4.cell cN3) (by intro e; have := own_ne n3 o3 (by decide); exact this e.symm)
    simp (disch := omega) only [SX, Nat.reduceAdd, hlt', LD_3 hcell]
    refine CALL_of (dfa_row d5 (s : Int) ⟨by omega, by omega⟩) ?_
    rintro v w6 ⟨e6, nb', crow, hc6, rfl⟩
    obtain rfl : nb' = nb := by rw [cN5] at hc6; simpa using hc6.symm
    rw [Int.toNat_natCast]
    have d6 := d5.ext e6
    obtain ⟨tb', lb', nb'', m1', m2', Q', q0, q1, q2, q3, ht6, hl6, -⟩ := d6.cells
    have cN6 := e6.cell cN5
    have dput := d6.put cN6
    -- the row it falls to
    refine ⟨fun w7 => ∃ N', Fill w6 w7 lo H b nb' ls N N' s (baseM (trieM ls) s), ?_, ?_⟩
    · simp (disch := omega) only [SX, Nat.reduceAdd, LD_92 q1]
      refine CALL_of (links_Fail hl6 (s : Int)) ?_
      rintro v w7 ⟨rfl, rfl⟩
      rw [failL_get (by omega) (by omega)]
      have hfi := failM_in hT.ok (s : Int)
      have hzero : (s : Int) ∉ Q.take i := by
        intro hm
        obtain ⟨j, hj⟩ := List.getElem?_of_mem hm
        rw [List.getElem?_take] at hj
        split at hj
        · obtain ⟨hj', hje⟩ := List.getElem?_eq_some_iff.1 hj
          have := (List.getElem_inj (h₀ := hj') (h₁ := hlt) hq.nodup).1 (by rw [hje, hse'])
          omega
        · cases hj
      have hz := (hrows s hsn).2 hzero
      by_cases hs0 : s = 0
      · subst hs0
        have hf : failM (trieM ls) ((0 : Nat) : Int) = -1 := by simp [failM]
        rw [hf]
        simp (disch := omega) only [SX, Nat.reduceAdd, show ¬ (0 : Int) ≤ -1 by decide]
        refine ⟨N, d6, Chg.refl _ _, rfl, fun _ _ _ _ => rfl, fun c => ?_⟩
        rw [hz _ (cls_lt _ c)]
        simp [baseM]
      · have hf0 : 0 ≤ failM (trieM ls) (s : Int) := by unfold failM; rw [if_neg (by omega)]; exact (lsn_in hT.ok.pos _).1
        have hfd := failM_dep hT.ok (x := (s : Int)) (by omega) (by omega)
        have hfQ := hq.before hT.ok hxi hf0 hfi.2 hfd
        obtain ⟨f, hf⟩ : ∃ f : Nat, failM (trieM ls) (s : Int) = f := ⟨_, (Int.toNat_of_nonneg hf0).symm⟩
        rw [hf] at hfQ hf0 hfi hfd ⊢
        have hfn : f < (trieM ls).length := by omega
        have hfrow := (hrows f hfn).1 hfQ
        simp (disch := omega) only [SX, Nat.reduceAdd, hf0]
        refine CALL_of (dfa_row d6 (f : Int) ⟨by omega, by omega⟩) ?_
        rintro v w8 ⟨e8, nb8, c8, hc8, rfl⟩
        obtain rfl : nb8 = nb' := by rw [cN6] at hc8; simpa using hc8.symm
        rw [Int.toNat_natCast]
        have d8 := d6.ext e8
        have cN8 := e8.cell cN6
        obtain ⟨o8, _, _, _, hput⟩ := d8.put cN8
        have hNL : N.length = (trieM ls).length * wideN (inT ls) := by omega
        obtain ⟨r1, r2, r3⟩ := row_copy (W := wideN (inT ls)) hNL hsn hfn
        have hinS : s * wideN (inT ls) + wideN (inT ls) ≤ N.length := by
          have := Nat.mul_le_mul_right (wideN (inT ls)) (show s + 1 ≤ (trieM ls).length from hsn)
          rw [Nat.add_mul] at this
          omega
        have hinF : f * wideN (inT ls) + wideN (inT ls) ≤ N.length := by
          have := Nat.mul_le_mul_right (wideN (inT ls)) (show f + 1 ≤ (trieM ls).length from hfn)
          rw [Nat.add_mul] at this
          omega
        have hcsl : (((N.drop (f * wideN (inT ls))).take (wideN (inT ls))).map vI).length = wideN (inT ls) := by rw [List.length_map, List.length_take, List.length_drop]; omega
        refine COPY (by kernel_rfl) SZ_3 o8 (cs := ((N.drop (f * wideN (inT ls))).take (wideN (inT ls))).map vI) (by rw [hcsl]; exact (Nat.min_self _).symm) (fun j u hj => ?_) (by rw [hcsl, List.length_map]; omega) (fun u hu => by obtain ⟨_, _, rfl⟩ := List.mem_map.1 hu; rfl) fun w9 o9 c9 z9 => ?_
        · rw [addr_add]
          refine o8.cell ?_
          rw [List.getElem?_map, List.getElem?_take, List.getElem?_drop] at hj
          rw [List.getElem?_map]
          split at hj
          · exact hj
          · cases hj
        · rw [hcsl, ← List.map_take, ← List.map_drop, ← List.map_append, ← List.map_append] at o9
          refine ⟨_, hput w9 _ r1 o9 c9, (e8.chg (S := fun k => k = nb8)).then c9 (fun _ _ x => x) (fun _ _ x => x), r1, fun x k hx hk => r3 x k hx hk, fun c => ?_⟩
          rw [r2 _ (cls_lt _ c), hfrow c]
          unfold baseM
          rw [if_neg (by omega), hf]
    · rintro w7 ⟨N1, F1⟩
      have d7 := F1.at'
      obtain ⟨tb7, lb7, nb7, _, _, _, p0, p1, p2, p3, ht7, -, -, -, hb7, -⟩ := d7.cells
      simp (disch := omega) only [SX, Nat.reduceAdd, LD_90 p0]
      refine CALL_of (trie_Kids ht7 (s : Int)) ?_
      rintro kv w8 ⟨hkr, e8⟩
      have hkl := kidsM_len (trieM ls) (s : Int)
      have hkv := (SlB.of_row hkr (by omega)).1
      obtain ⟨Ak, ck, rfl⟩ := hkv.shape
      have d8 := d7.ext e8
      have hsz7 : w4.heap.size ≤ w7.heap.size := by have := c45.size; have := e6.size; have := F1.chg.size; omega
      have hkb : ∀ k, (Value.slice Ak (kidsM (trieM ls) (s : Int)).length ck).ownBlock = some k → w7.heap.size ≤ k := fun k hk => row_base hkr k hk.symm
      have hNL1 : N1.length = N.length := F1.len
      have cN7 : w7.cell? ⟨b, 259, none⟩ = some (.slice (some ⟨nb', 0, none⟩) N1.length N1.length) := by
        rw [hNL1]; exact F1.chg.cell cN6 (by intro e; have := own_ne n3 o3 (by decide); exact this e.symm)
      have cN8 := e8.cell cN7
      have finish : ∀ w9 N2, DfaAt w9 lo H b ls N2 → Chg (fun k => k = nb') w8 w9 → N2.length = N1.length → (∀ x k, x ≠ s → k < wideN (inT ls) → N2[x * wideN (inT ls) + k]? = N1[x * wideN (inT ls) + k]?) → rowOK ls N2 s →
          ((∃ (i' : Nat) (N : List Int), Value.int .i64 ((i : Int) + 1) = .int .i64 i' ∧ i' ≤ Q.length ∧ DfaAt w9 lo H b ls N ∧ N.length = L ∧ Chg (fun k => k = nb') w4 w9 ∧ (∀ x : Nat, x < (trieM ls).length → ((x : Int) ∈ Q.take i' → rowOK ls N x) ∧ ((x : Int) ∉ Q.take i' → ∀ k, k < wideN (inT ls) → N[x * wideN (inT ls) + k]? = some 0))) ∧ Q.length - vnat (.int .i64 ((i : Int) + 1)) < Q.length - vnat (.int .i64 (i : Int))) := by
        intro w9 N2 d9 c9 hl2 hrest hok
        have htk : Q.take (i + 1) = Q.take i ++ [(s : Int)] := by rw [List.take_add_one, hxi]; rfl
        have call : Chg (fun k => k = nb') w4 w9 := (((c45.then (e6.chg (S := fun k => k = nb')) (fun _ _ x => x) (fun _ _ x => x)).then F1.chg (fun _ _ x => x) (fun _ _ x => x)).then (e8.chg (S := fun k => k = nb')) (fun _ _ x => x) (fun _ _ x => x)).then c9 (fun _ _ x => x) (fun _ _ x => x)
        refine ⟨⟨i + 1, N2, by simp, by omega, d9, by omega, call, fun x hx => ?_⟩, by simp only [vnat_int]; omega⟩
        rw [htk]
        by_cases hxs : x = s
        · subst hxs
          exact ⟨fun _ => hok, fun hm => (hm (List.mem_append_right _ (List.mem_singleton.2 rfl))).elim⟩
        · have same : ∀ k, k < wideN (inT ls) → N2[x * wideN (inT ls) + k]? = N[x * wideN (inT ls) + k]? := fun k hk => by rw [hrest x k hxs hk, F1.rest x k hxs hk]
          refine ⟨fun hm c => ?_, fun hm k hk => ?_⟩
          · rw [same _ (cls_lt _ c)]
            rcases List.mem_append.1 hm with hm | hm
            · exact (hrows x hx).1 hm c
            · simp only [List.mem_singleton] at hm; omega
          · rw [same k hk]
            exact (hrows x hx).2 (fun hh => hm (List.mem_append_left _ hh)) k hk
      have hdelta : ∀ c, deltaM (trieM ls) (s : Int) c = if c ∈ kidsM (trieM ls) (s : Int) then stepM (trieM ls) s c else baseM (trieM ls) s c := by
        intro c
        rw [delta_step hT.ok (by omega) (by omega) c]
        unfold baseM
        by_cases hk : 0 ≤ stepM (trieM ls) (s : Int) c
        · rw [if_pos hk, if_pos (mem_kids.2 hk)]
        · rw [if_neg hk, if_neg (fun h => hk (mem_kids.1 h))]
      by_cases hk0 : (kidsM (trieM ls) (s : Int)).length = 0
      · have hk0' : ((kidsM (trieM ls) (s : Int)).length : Int) = 0 := by omega
        simp (disch := omega) only [SX, Nat.reduceAdd, hk0']
        refine finish w8 N1 d8 (Chg.refl _ _) rfl (fun _ _ _ _ => rfl) fun c => ?_
        rw [F1.row c, hdelta c, if_neg (by rw [List.eq_nil_of_length_eq_zero hk0]; simp)]
      · have hk0' : ¬ ((kidsM (trieM ls) (s : Int)).length : Int) = 0 := by omega
        simp (disch := omega) only [SX, Nat.reduceAdd, hk0']
        refine ⟨fun jv w9 => ∃ (j : Nat) (N2 : List Int), jv = .int .i64 j ∧ j ≤ (kidsM (trieM ls) (s : Int)).length ∧ DfaAt w9 lo H b ls N2 ∧ Chg (fun k => k = nb') w8 w9 ∧ N2.length = N1.length ∧ (∀ x k, x ≠ s → k < wideN (inT ls) → N2[x * wideN (inT ls) + k]? = N1[x * wideN (inT ls) + k]?) ∧
          (∀ c : UInt8, N2[s * wideN (inT ls) + clsN (inT ls) c.toNat]? = some (if c ∈ (kidsM (trieM ls) (s : Int)).take j then stepM (trieM ls) s c else baseM (trieM ls) s c)), fun jv _ => (kidsM (trieM ls) (s : Int)).length - vnat jv,
          ⟨0, N1, rfl, Nat.zero_le _, d8, Chg.refl _ _, rfl, fun _ _ _ _ => rfl, fun c => by rw [F1.row c]; simp⟩, ?_⟩
        rintro jv w9 ⟨j, N2, rfl, hj, d9, c9, hl2, hrest, hrow⟩
        by_cases hjl : j < (kidsM (trieM ls) (s : Int)).length
        · have hjl' : (j : Int) < ((kidsM (trieM ls) (s : Int)).length : Int) := by omega
          have hkv9 := hkv.chg c9 (fun k hk => by have := hkb k hk; have := n3.lt; have := e4.size; omega)
          obtain ⟨bk, ok, ck', hv, hkc⟩ := hkv9.at hjl
          injection hv with hA _ hc
          subst hA hc
          obtain ⟨a, ha⟩ : ∃ a, a = (kidsM (trieM ls) (s : Int))[j] := ⟨_, rfl⟩
          rw [← ha] at hkc
          obtain ⟨tb9, lb9, nb9, _, _, _, p0, p1, p2, p3, ht9, -, -, -, hb9, -⟩ := d9.cells
          have cN9 : w9.cell? ⟨b, 259, none⟩ = some (.slice (some ⟨nb', 0, none⟩) N2.length N2.length) := by
            rw [hl2]; exact c9.cell cN8 (by intro e; have := own_ne n3 o3 (by decide); exact this e.symm)
          simp (disch := omega) only [SX, Nat.reduceAdd, hjl', LD_5 hkc]
          refine ⟨KP (fun _ => False) w9, KP.refl _ _, ?_⟩
          refine (RKA_103 (X := fun _ => False) p2 hb9 (fun x => x) (KP.refl _ _)).mpr ?_
          simp (disch := omega) only [SX, Nat.reduceAdd, RK_90 (X := fun _ => False) p0 (fun x => x) (KP.refl _ _)]
          refine CALL_of (classes_Class (inT ls) a) ?_
          rintro v w10 ⟨rfl, e10⟩
          have e10 : Ext w9 w10 := (Ext.drew _).trans e10
          refine KEEP (KP.of_ext e10) ?_
          refine CALL_of (trie_Step (ht9.ext e10) (s : Int) a) ?_
          rintro v w11 ⟨rfl, rfl⟩
          have hca := cls_lt (inT ls) a
          have hin : s * wideN (inT ls) + clsN (inT ls) a.toNat < N2.length := by
            have := row_in hsn hca
            omega
          have d11 := d9.ext e10
          obtain ⟨o11, _, _, _, hput⟩ := d11.put (e10.cell cN9)
          simp (disch := omega) only [SX, Nat.reduceAdd]
          refine STORE SZ_3 o11 (by rw [List.length_map]; exact hin) rfl rfl fun w12 o12 c12 z12 => ?_
          try simp (disch := omega) only [SX, Nat.reduceAdd]
          have hms : (N2.map vI).set (s * wideN (inT ls) + clsN (inT ls) a.toNat) (.int .i64 (stepM (trieM ls) s a)) = (N2.set (s * wideN (inT ls) + clsN (inT ls) a.toNat) (stepM (trieM ls) s a)).map vI := by rw [List.map_set]; rfl
          rw [hms] at o12
          refine ⟨⟨j + 1, _, by simp, by omega, hput w12 _ (by rw [List.length_set]) o12 c12, (c9.then (e10.chg (S := fun k => k = nb')) (fun _ _ x => x) (fun _ _ x => x)).then c12 (fun _ _ x => x) (fun _ _ x => x), by rw [List.length_set]; exact hl2, fun x k hx hk => ?_, ?_⟩, by simp only [vnat_int]; omega⟩
          · rw [List.getElem?_set_ne (fun he => hx (idx_inj hk hca he.symm).1), hrest x k hx hk]
          · rw [ha]
            exact dfa_kids d9 cN9 hsn hjl (by rw [← ha]; exact hin) hrow
        · have hjl' : ¬ (j : Int) < ((kidsM (trieM ls) (s : Int)).length : Int) := by omega
          obtain rfl : j = (kidsM (trieM ls) (s : Int)).length := by omega
          simp (disch := omega) only [SX, Nat.reduceAdd, hjl']
          refine finish w9 N2 d9 c9 hl2 hrest fun c => ?_
          rw [hrow c, List.take_length, hdelta c]
  · have hlt' : ¬ (i : Int) < (Q.length : Int) := by omega
    simp (disch := omega) only [SX, Nat.reduceAdd, hlt']
    obtain rfl : i = Q.length := by omega
    have c35 : Chg (fun k => k = b) w w5 := (c13.then (e4.chg (S := fun _ => False)) (fun _ _ x => x) (fun _ _ x => x.elim)).then c45 (fun _ _ x => x) (fun i hi x => by omega)
    refine k _ _ ⟨c35, N, ?_, fun s hs => (hrows s hs).1 (by rw [List.take_length]; exact hq.all hT.ok _ _ (by omega) (by omega) (Nat.le_refl _))⟩
    have := c45.size
    have := e4.size
    exact d5.mono (Nat.le_refl _) (by omega)
end
end Go.Proofs.YtgjfhmahiiokeaaGreat.Y
