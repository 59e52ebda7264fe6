import Derived.Test.YtgjfhmahiiokeaaGreatLinksC
set_option linter.unusedVariables false
set_option linter.unusedSimpArgs false
set_option linter.unusedVariables false
set_option linter.unusedSimpArgs false
set_option maxRecDepth 8000
namespace Go.Proofs.YtgjfhmahiiokeaaGreat.Y
open Go Go.Sx

theorem IsLinks.order {w : World} {lo hi b : Nat} {F O W Q : List Int} (h : IsLinks w lo hi b F O W Q) (hhi : hi ≤ w.heap.size) : ∃ v, w.cell? ⟨b, 3, none⟩ = some v ∧ w.ownsRow lo 3 1 v Q.length (Q.map vI) ∧ (∀ k, v.ownBlock = some k → lo ≤ k ∧ k < hi) ∧ lo ≤ b ∧ b < hi ∧
    ∀ w1 v' (Q' : List Int), Chg (fun k => some k = v.ownBlock) w w1 → Q'.length ≤ 2 ^ 40 → w1.ownsRow lo 3 1 v' Q'.length (Q'.map vI) → (v'.ownBlock = v.ownBlock ∨ ∀ k, v'.ownBlock = some k → w.heap.size ≤ k) →
      ∃ cs, Own w1 b cs 137 ∧ cs.length = 4 ∧ ∀ w2, Own w2 b (cs.set 3 v') 137 → Chg (fun k => k = b) w1 w2 → w2.heap.size = w1.heap.size → IsLinks w2 lo w2.heap.size b F O W Q' := by
  obtain ⟨⟨fb, ob, wb, v, h1, h2, h3, h4, h5, ⟨a1, a2, a3, a4, a5, a6, a7, a8⟩, h6, h7, h8, h9⟩, p1, p2, p3, p4⟩ := h
  refine ⟨v, h1.cell rfl, h5, fun k hk => ⟨row_base h5 k hk.symm, (h6 k hk).1⟩, a1, a2, fun w1 v' Q' hc hl hr hv => ?_⟩
  have n1 := own_ne h1 h2 (by decide)
  have n2 := own_ne h1 h3 (by decide)
  have n3 := own_ne h1 h4 (by decide)
  have nb : ¬ some b = v.ownBlock := fun hk => row_ne h1 h5 hk.symm (by decide) rfl
  have hsz := hc.size
  refine ⟨_, h1.chg hc nb, rfl, fun w2 o2 c2 z2 => ?_⟩
  have nv : ∀ k, v'.ownBlock = some k → b ≠ k := fun k hk => row_ne (h1.chg hc nb) hr hk (by decide)
  refine ⟨⟨fb, ob, wb, v', o2, (h2.chg hc fun e => (h6 fb e.symm).2.1 rfl).chg c2 (Ne.symm n1), (h3.chg hc fun e => (h6 ob e.symm).2.2.1 rfl).chg c2 (Ne.symm n2), (h4.chg hc fun e => (h6 wb e.symm).2.2.2 rfl).chg c2 (Ne.symm n3),
    row_chg hr c2 (fun k hk e => nv k hk e.symm), by omega, fun k hk => ?_, h7, h8, h9⟩, p1, p2, p3, hl⟩
  have hlt := (hr.lt k hk).2
  rcases hv with hv | hv
  · rw [hv] at hk
    have := h6 k hk
    exact ⟨by omega, this.2⟩
  · have := hv k hk
    omega

theorem IsLinks.mono {w : World} {lo hi lo' hi' b : Nat} {F O W Q : List Int} (h : IsLinks w lo hi b F O W Q) (h1 : lo' ≤ lo) (h2 : hi ≤ hi') : IsLinks w lo' hi' b F O W Q := by
  obtain ⟨⟨fb, ob, wb, v, k1, k2, k3, k4, k5, ⟨a1, a2, a3, a4, a5, a6, a7, a8⟩, h6, h7, h8, h9⟩, p1, p2, p3, p4⟩ := h
  exact ⟨⟨fb, ob, wb, v, k1, k2, k3, k4, row_mono k5 h1, by omega, fun k hk => by have := h6 k hk; exact ⟨by omega, this.2⟩, h7, h8, h9⟩, p1, p2, p3, p4⟩

theorem kidsM_len (T : List TN) (n : Int) : (kidsM T n).length ≤ 256 := by
  unfold kidsM
  refine Nat.le_trans (List.length_filter_le _ _) (by simp)

/-- The links of all nodes. -/
def failL (T : List TN) : List Int := (List.range T.length).map fun i : Nat => failM T i
def outL (T : List TN) : List Int := (List.range T.length).map fun i : Nat => outM T i
def ownL (T : List TN) : List Int := (List.range T.length).map fun i : Nat => ownM T i

section
variable {w : World} {tlo thi tb : Nat} {T : List TN}

theorem links_Build (ht : IsTrie w tlo thi tb T) (hT : TreeOK T) (hthi : thi ≤ w.heap.size) (hs : T.length ≤ 2 ^ 31) :
    RET Tryz.prog 42 [.pointer (some ⟨tb, 0, none⟩)] w fun v w' => ∃ b Q, v = .pointer (some ⟨b, 0, none⟩) ∧ IsLinks w' w.heap.size w'.heap.size b (failL T) (outL T) (ownL T) Q ∧ Queue T Q Q.length ∧ Ext w w' := by
  have hdep : ∀ x, depM T x ≤ 2 ^ 40 := by
    intro x
    by_cases hx : 0 ≤ x ∧ x < T.length
    · have h1 := nodeM_in hx
      have := depM_node hT x.toNat x _ h1 (by omega)
      have := ht.deps _ (List.getElem_mem (show x.toNat < T.length by omega))
      omega
    · unfold depM pathM
      rw [up_stop (fun y hy => by rw [nodeM_none hx] at hy; cases hy)]
      simp
  apply by_links_Build
  unfold sh_links_Build
  refine CALL_of (trie_Nodes ht) ?_
  rintro v w ⟨rfl, rfl⟩
  refine ⟨fun v w' => ∃ b, v = .pointer (some ⟨b, 0, none⟩) ∧ IsLinks w' w.heap.size w'.heap.size b (List.replicate T.length (-1)) (List.replicate T.length (-1)) (List.replicate T.length 0) [] ∧ Ext w w', ?_, ?_⟩
  · refine ⟨fun _ => True, trivial, ?_⟩
    have h0 : St w w.drew [] := ⟨Ext.drew w, by simp, by simp⟩
    repeat' first
      | exact trivial
      | (refine st_bs (by assumption) ?_; intro _ _)
      | (refine st_make hs (by assumption) ?_; intro _ _)
      | (refine st_rep hs (by assumption) (by simp) ?_; intro _ _ _)
      | (refine st_leaf hs (by assumption) (by simp) (by simp) (by simp) (by intro hnd; simp only [List.map_cons, List.map_nil, List.nodup_cons, List.mem_cons, List.not_mem_nil, not_or, or_false, not_false_eq_true, and_true] at hnd; omega) ?_; intro b w' hl he; exact ⟨b, rfl, hl, he⟩)
      | (refine KEEP trivial ?_)
      | apply And.intro
  · rintro lv w1 ⟨b, rfl, h1, e1⟩
    have hne : ¬ (T.length : Int) = 0 := by have := hT.pos; omega
    simp (disch := omega) only [SX, Nat.reduceAdd, hne]
    refine BS_105_1 fun w2 o2 e2 z2 => ?_
    try simp (disch := omega) only [SX, Nat.reduceAdd]
    have tle := ht.small
    obtain ⟨ov, hov, hrow, hblk, hb1, hb2, hset⟩ := h1.order (Nat.le_refl _)
    have hr2 := row_own (size := 1) (n := 1) o2 rfl (by unfold maxLen; decide) w.heap.size e1.size
    obtain ⟨cs, oc, hcs, hfin⟩ := hset w2 _ [0] e2.chg (by simp) hr2 (.inr (by simp [Value.ownBlock]))
    refine STORE SZ_105 oc (by omega) rfl rfl fun w3 o3 c3 z3 => ?_
    have h3 := hfin w3 o3 c3 z3
    have e3 : Ext w w3 := (e1.trans e2).ext_of c3 fun i hi => by omega
    clear hset hfin oc o3 c3 z3 hr2 o2
    try simp (disch := omega) only [SX, Nat.reduceAdd]
    refine ⟨fun iv w4 => ∃ (i : Nat) (Q F O W : List Int), iv = .int .i64 i ∧ IsLinks w4 w.heap.size w4.heap.size b F O W Q ∧ Ext w w4 ∧ Queue T Q i ∧ F.length = T.length ∧
      (∀ x : Nat, x < T.length → ((x : Int) ∈ Q.take i → F[x]? = some (failM T x) ∧ O[x]? = some (outM T x) ∧ W[x]? = some (ownM T x)) ∧ ((x : Int) ∉ Q.take i → W[x]? = some 0) ∧ (x = 0 → F[x]? = some (failM T x) ∧ O[x]? = some (outM T x) ∧ W[x]? = some (ownM T x))),
      fun iv _ => T.length - vnat iv, ⟨0, [0], _, _, _, rfl, h3, e3, Queue.start hT, by simp, ?_⟩, ?_⟩
    · intro x hx
      refine ⟨by simp, fun _ => by simp [hx], ?_⟩
      rintro rfl
      have : ((0 : Nat) : Int) = 0 := rfl
      rw [this, outM_root T (Int.le_refl _), ownM_neg (Int.le_refl _)]
      simp [hx, failM]
    rintro iv w4 ⟨i, Q, F, O, W, rfl, h4, e4, hq, hl, hk⟩
    have hqn : Q.length ≤ T.length := nodup_le _ _ hq.nodup hq.inn
    obtain ⟨fb, ob, wb, qv, c0, c1, c2, c3, hqv, gF, gO, gW⟩ := id h4.reads
    obtain ⟨Aq, cq, rfl⟩ := hqv.shape
    simp (disch := omega) only [SX, Nat.reduceAdd, LD_105 c3]
    by_cases hlt : i < Q.length
    · have hlt' : (i : Int) < (Q.length : Int) := by omega
      obtain ⟨bq, oq, cq', hv, hcell⟩ := hqv.at hlt
      injection hv with hA _ hc
      subst hA hc
      simp (disch := omega) only [SX, Nat.reduceAdd, hlt', LD_105 c3, LD_3 hcell]
      obtain ⟨x, hx⟩ : ∃ x, x = Q[i] := ⟨_, rfl⟩
      have hxi : Q[i]? = some x := by rw [hx]; exact List.getElem?_eq_getElem hlt
      have hxin := hq.inn x (List.mem_of_getElem? hxi)
      rw [← hx]
      have ht4 := ht.ext e4
      refine CALL_of (trie_Kids ht4 x) ?_
      rintro kv w5 ⟨hkr, e5⟩
      have hkv := (SlB.of_row hkr (by have := kidsM_len T x; omega)).1
      obtain ⟨Ak, ck, rfl⟩ := hkv.shape
      have h5 : IsLinks w5 w.heap.size w5.heap.size b F O W Q := (h4.ext e5).mono (Nat.le_refl _) e5.size
      have hgrow := hq.grow hT hxi
      have hgn : (Q ++ (kidsM T x).map (stepM T x)).length ≤ T.length := nodup_le _ _ hgrow.nodup hgrow.inn
      rw [List.length_append, List.length_map] at hgn
      have hkl := kidsM_len T x
      simp (disch := omega) only [SX, Nat.reduceAdd]
      refine ⟨fun jv w6 => ∃ j : Nat, jv = .int .i64 j ∧ j ≤ (kidsM T x).length ∧ IsLinks w6 w.heap.size w6.heap.size b F O W (Q ++ ((kidsM T x).take j).map (stepM T x)) ∧ Ext w w6 ∧ w6.ownsRow w4.heap.size 5 1 (.slice Ak (kidsM T x).length ck) (kidsM T x).length ((kidsM T x).map vB), fun jv _ => (kidsM T x).length - vnat jv, ⟨0, rfl, Nat.zero_le _, by simpa using h5, e4.trans e5, hkr⟩, ?_⟩
      clear h5 hkv hkr
      rintro jv w6 ⟨j, rfl, hj, h6, e6, hkr⟩
      have hkv := (SlB.of_row hkr (by omega)).1
      by_cases hjl : j < (kidsM T x).length
      · have hjl' : (j : Int) < ((kidsM T x).length : Int) := by omega
        obtain ⟨bk, ok, ck', hv, hkc⟩ := hkv.at hjl
        injection hv with hA _ hc
        subst hA hc
        simp (disch := omega) only [SX, Nat.reduceAdd, hjl', LD_5 hkc]
        obtain ⟨ov, hov, hrow, hblk, hb1, hb2, hset⟩ := h6.order (Nat.le_refl _)
        refine ⟨KP (fun _ => False) w6, KP.refl _ _, ?_⟩
        simp (disch := omega) only [SX, Nat.reduceAdd, RK_105 (X := fun _ => False) hov (fun x => x) (KP.refl _ _)]
        refine CALL_of (trie_Step (ht.ext (e6.trans (Ext.drew _))) x _) ?_
        rintro v w7 ⟨rfl, rfl⟩
        refine KEEP (KP.refl _ _) ?_
        refine BS_105_1 fun w7 o7 e7 z7 => KEEP (KP.then (KP.refl _ _) (Nat.le_refl _) e7 (fun _ _ x => x)) ?_
        have e7 : Ext w6 w7 := (Ext.drew w6).trans e7
        have hrow7 := row_ext hrow e7
        have hql : (Q ++ ((kidsM T x).take j).map (stepM T x)).length ≤ T.length := by simp; omega
        refine PUSH1 (by kernel_rfl) IN_3 rfl hrow7 o7 rfl (by unfold maxLen; omega) (by omega) (by have := e6.size; have := e7.size; omega) fun v' w8 r8 c8 g8 => ?_
        have hkj : (kidsM T x).take (j + 1) = (kidsM T x).take j ++ [(kidsM T x)[j]] := by rw [List.take_succ_eq_append_getElem hjl]
        have hQ : Q ++ ((kidsM T x).take (j + 1)).map (stepM T x) = (Q ++ ((kidsM T x).take j).map (stepM T x)) ++ [stepM T x (kidsM T x)[j]] := by rw [hkj, List.map_append, List.append_assoc]; rfl
        have c68 : Chg (fun k => some k = ov.ownBlock) w6 w8 := e7.chg.then c8 (fun _ _ x => x) (fun _ _ x => x)
        have hlen8 : (Q ++ ((kidsM T x).take (j + 1)).map (stepM T x)).length = (Q ++ ((kidsM T x).take j).map (stepM T x)).length + 1 := by rw [hQ, List.length_append]; rfl
        obtain ⟨cs, oc, hcs, hfin⟩ := hset w8 v' (Q ++ ((kidsM T x).take (j + 1)).map (stepM T x)) c68 (by omega) (by rw [hlen8, hQ, List.map_append]; exact r8) (by
          rcases g8 with g8 | g8
          · exact .inl g8
          · right
            intro k hk
            rw [g8] at hk
            injection hk with hk
            have := e7.size
            omega)
        obtain ⟨av, cv, rfl, _⟩ := row_shape r8
        try simp (disch := omega) only [SX, Nat.reduceAdd]
        refine STORE SZ_105 oc (by omega) rfl rfl fun w9 o9 c9 z9 => ?_
        have h9 := hfin w9 o9 c9 z9
        have e68 : Ext w w8 := e6.ext_of c68 fun i hi => (hblk i hi.symm).1
        have e9 : Ext w w9 := e68.ext_of c9 fun i hi => by omega
        try simp (disch := omega) only [SX, Nat.reduceAdd]
        refine ⟨⟨j + 1, by simp, by omega, h9, e9, ?_⟩, by simp only [vnat_int]; omega⟩
        have nov : ∀ k, (Value.slice (some ⟨bk, ok, none⟩) (kidsM T x).length ck).ownBlock = some k → ¬ some k = ov.ownBlock := fun k hk hov => rows_ne hkr hrow hk hov.symm (by decide) rfl
        have nob : ∀ k, (Value.slice (some ⟨bk, ok, none⟩) (kidsM T x).length ck).ownBlock = some k → ¬ k = b := fun k hk e => by subst e; exact row_ne oc (row_chg hkr c68 nov) hk (by decide) rfl
        exact row_chg (row_chg hkr c68 nov) c9 nob
      · have hjl' : ¬ (j : Int) < ((kidsM T x).length : Int) := by omega
        obtain rfl : j = (kidsM T x).length := by omega
        rw [List.take_length] at h6
        have htk : (Q ++ (kidsM T x).map (stepM T x)).take (i + 1) = Q.take i ++ [x] := by
          rw [List.take_append_of_le_length (by omega), List.take_add_one, hxi]; rfl
        have hnx : x ∉ Q.take i := by
          intro hm
          obtain ⟨j, hj⟩ := List.getElem?_of_mem hm
          rw [List.getElem?_take] at hj
          split at hj
          · have hj' := (List.getElem?_eq_some_iff.1 hj).1
            have := (List.getElem_inj (h₀ := hj') (h₁ := hlt) hq.nodup).1 (by rw [(List.getElem?_eq_some_iff.1 hj).2, hx])
            omega
          · cases hj
        simp (disch := omega) only [SX, Nat.reduceAdd, hjl']
        by_cases hx0 : x = 0
        · simp (disch := omega) only [SX, Nat.reduceAdd, hx0]
          refine ⟨⟨i + 1, _, F, O, W, by simp, by rw [hx0] at h6; exact h6, e6, by rw [hx0] at hgrow; exact hgrow, hl, ?_⟩, by simp only [vnat_int]; omega⟩
          rw [hx0] at htk
          rw [htk]
          intro y hy
          obtain ⟨k1, k2, k3⟩ := hk y hy
          refine ⟨fun hm => ?_, fun hm => k2 (fun hh => hm (List.mem_append_left _ hh)), k3⟩
          rcases List.mem_append.1 hm with hm | hm
          · exact k1 hm
          · simp only [List.mem_singleton] at hm
            exact k3 (by omega)
        · simp (disch := omega) only [SX, Nat.reduceAdd, hx0]
          have hbelow := hq.below hT hxi
          have ex : ((x.toNat : Nat) : Int) = x := by omega
          refine CALL_of (links_link h6 (ht.ext e6) hT hl x ⟨by omega, hxin.2⟩ (fun y hy hd => (hk y hy).1 (hbelow _ y (by omega) (by omega) hd (Nat.le_refl _))) ((hk x.toNat (by omega)).2.1 (by rw [ex]; exact hnx)) (Nat.le_refl _) hthi hdep) ?_
          rintro v w7 ⟨h7, c7⟩
          have e7 : Ext w w7 := e6.ext_of c7 fun i hi => hi.1
          try simp (disch := omega) only [SX, Nat.reduceAdd]
          refine ⟨⟨i + 1, _, _, _, _, by simp, h7.mono (Nat.le_refl _) c7.size, e7, hgrow, by rw [List.length_set]; exact hl, ?_⟩, by simp only [vnat_int]; omega⟩
          rw [htk]
          intro y hy
          obtain ⟨k1, k2, k3⟩ := hk y hy
          have olen := h6.olen
          have wlen := h6.wlen
          by_cases hyx : (y : Int) = x
          · have e : x.toNat = y := by omega
            rw [e, ← hyx]
            refine ⟨fun _ => ?_, fun hm => (hm (List.mem_append_right _ (by simp [hyx]))).elim, fun _ => ?_⟩
            · refine ⟨by rw [List.getElem?_set_self (by omega)], by rw [List.getElem?_set_self (by omega)], by rw [List.getElem?_set_self (by omega)]⟩
            · refine ⟨by rw [List.getElem?_set_self (by omega)], by rw [List.getElem?_set_self (by omega)], by rw [List.getElem?_set_self (by omega)]⟩
          · have e : x.toNat ≠ y := by omega
            rw [List.getElem?_set_ne e, List.getElem?_set_ne e, List.getElem?_set_ne e]
            refine ⟨fun hm => ?_, fun hm => k2 (fun hh => hm (List.mem_append_left _ hh)), k3⟩
            rcases List.mem_append.1 hm with hm | hm
            · exact k1 hm
            · simp only [List.mem_singleton] at hm
              exact (hyx hm).elim
    · have hlt' : ¬ (i : Int) < (Q.length : Int) := by omega
      simp (disch := omega) only [SX, Nat.reduceAdd, hlt']
      obtain rfl : i = Q.length := by have := hq.le; omega
      have hall := hq.all hT
      refine ⟨b, Q, rfl, ?_, hq, e4⟩
      have hFe : F = failL T := by
        apply List.ext_getElem?
        intro j
        by_cases hj : j < T.length
        · rw [((hk j hj).1 (by rw [List.take_length]; exact hall _ j (by omega) (by omega) (Nat.le_refl _))).1]
          simp [failL, hj]
        · rw [List.getElem?_eq_none (by omega), List.getElem?_eq_none (by simp [failL]; omega)]
      have hOe : O = outL T := by
        have := h4.olen
        apply List.ext_getElem?
        intro j
        by_cases hj : j < T.length
        · rw [((hk j hj).1 (by rw [List.take_length]; exact hall _ j (by omega) (by omega) (Nat.le_refl _))).2.1]
          simp [outL, hj]
        · rw [List.getElem?_eq_none (by omega), List.getElem?_eq_none (by simp [outL]; omega)]
      have hWe : W = ownL T := by
        have := h4.wlen
        apply List.ext_getElem?
        intro j
        by_cases hj : j < T.length
        · rw [((hk j hj).1 (by rw [List.take_length]; exact hall _ j (by omega) (by omega) (Nat.le_refl _))).2.2]
          simp [ownL, hj]
        · rw [List.getElem?_eq_none (by omega), List.getElem?_eq_none (by simp [ownL]; omega)]
      rw [← hFe, ← hOe, ← hWe]
      exact h4
end
end Go.Proofs.YtgjfhmahiiokeaaGreat.Y
