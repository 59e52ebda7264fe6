import Derived.Test.YtgjfhmahiiokeaaGreatTrie
set_option linter.unusedVariables false
set_option linter.unusedSimpArgs false
set_option linter.unusedVariables false
set_option linter.unusedSimpArgs false
namespace Go.Proofs.YtgjfhmahiiokeaaGreat.Y
open Go Go.Sx

/-! ### The tree: its paths, and how it grows -/
set_option maxRecDepth 4000 in
theorem slices_Reverse {w : World} {base n : Nat} {v : Value} {xs : List UInt8} (h : w.ownsRow base 5 1 v n (xs.map vB)) (hn : n ≤ 2 ^ 40) : RET Tryz.prog 67 [v] w fun _ w' => w'.ownsRow base 5 1 v n (xs.reverse.map vB) ∧ Chg (fun j => some j = v.ownBlock) w w' := by
  have hl : xs.length = n := by have := h.1; simp at this; omega
  apply by_slices_Reverse_byte_byte
  unfold sh_slices_Reverse_byte_byte
  rcases id h.2 with ⟨rfl, rfl⟩ | ⟨g, cap, cur, rfl, _⟩
  · obtain rfl : xs = [] := List.eq_nil_of_length_eq_zero hl
    simp (disch := omega) only [SX, Nat.reduceAdd]
    refine ⟨fun i j w1 => i = .int .i64 0 ∧ j = .int .i64 (-1) ∧ w1 = w, fun _ _ _ => 0, ⟨rfl, by simp [RowKit.wrap64], rfl⟩, ?_⟩
    rintro i j w1 ⟨rfl, rfl, rfl⟩
    simp (disch := omega) only [SX, Nat.reduceAdd, show ¬ ((0 : Int) < -1) by decide]
    exact ⟨h, Chg.refl _ _⟩
  · simp (disch := omega) only [SX, Nat.reduceAdd]
    refine ⟨fun i j w1 => ∃ k ys, i = .int .i64 (k : Nat) ∧ j = .int .i64 ((n : Int) - 1 - k) ∧ k ≤ n ∧ w1.ownsRow base 5 1 (.slice (some ⟨g, 0, none⟩) n cap) n (List.map vB ys) ∧ Chg (fun j => j = g) w w1 ∧ ys.length = n ∧
      (∀ p, p < n → ys[p]? = if p < k ∨ n ≤ p + k then xs[n - 1 - p]? else xs[p]?) ∧ 2 * k ≤ n + 1, fun i j _ => n - vnat i, ⟨0, xs, rfl, by simp, by omega, h, Chg.refl _ _, hl, ?_, by omega⟩, ?_⟩
    · intro p hp
      rw [if_neg (by omega)]
    rintro i j w1 ⟨k, ys, rfl, rfl, hk, ho, hc, hy, hp, h2⟩
    by_cases hlt : 2 * k < n - 1
    · have hlt' : (k : Int) < (n : Int) - 1 - k := by omega
      have e1 : ((n : Int) - 1 - k).toNat = n - 1 - k := by omega
      have hx1 : (ys.map vB)[n - 1 - k]? = some (vB (ys[n - 1 - k]'(by omega))) := by rw [List.getElem?_map, List.getElem?_eq_getElem (by omega)]; rfl
      have hx2 : (ys.map vB)[k]? = some (vB (ys[k]'(by omega))) := by rw [List.getElem?_map, List.getElem?_eq_getElem (by omega)]; rfl
      have c1 := row_cell ho hx1
      have c2 := row_cell ho hx2
      simp (disch := omega) only [SX, Nat.reduceAdd, hlt', e1, DRAWQ, RD_5 c1, RD_5 c2]
      refine STOREROW SZ_5 (show World.ownsRow w1.drew _ _ _ _ _ _ from ho) (by omega) rfl rfl fun w2 ho2 hc2 hz2 => ?_
      try simp (disch := omega) only [SX, Nat.reduceAdd, e1]
      refine STOREROW SZ_5 ho2 (by omega) rfl rfl fun w3 ho3 hc3 hz3 => ?_
      try simp (disch := omega) only [SX, Nat.reduceAdd]
      refine ⟨⟨k + 1, (ys.set k (ys[n - 1 - k]'(by omega))).set (n - 1 - k) (ys[k]'(by omega)), by simp, by simp; omega, by omega, ?_, ?_, by simp [hy], ?_, by omega⟩, by simp only [vnat_int]; omega⟩
      · rw [List.map_set, List.map_set]; exact ho3
      · exact (hc.then hc2.of_drew (fun _ _ x => x) fun _ _ x => x).then hc3 (fun _ _ x => x) fun _ _ x => x
      · intro p hpn
        have hpk := hp k (by omega)
        have hpj := hp (n - 1 - k) (by omega)
        rw [List.getElem?_eq_getElem (by omega), if_neg (by omega)] at hpk hpj
        rw [List.getElem?_set, List.getElem?_set, List.length_set]
        by_cases e : n - 1 - k = p
        · subst e
          rw [if_pos rfl, if_pos (by omega), hpk, if_pos (by omega)]
          congr 1
          omega
        · rw [if_neg e]
          by_cases e' : k = p
          · subst e'
            rw [if_pos rfl, if_pos (by omega), hpj, if_pos (by omega)]
          · rw [if_neg e', hp p hpn]
            by_cases hh : p < k ∨ n ≤ p + k
            · rw [if_pos hh, if_pos (by omega)]
            · rw [if_neg hh, if_neg (by omega)]
    · have hlt' : ¬ (k : Int) < (n : Int) - 1 - k := by omega
      simp (disch := omega) only [SX, Nat.reduceAdd, hlt']
      have : ys = xs.reverse := by
        apply List.ext_getElem?
        intro p
        by_cases hpn : p < n
        · rw [hp p hpn, List.getElem?_reverse (by omega), hl]
          split
          · rfl
          · congr 1; omega
        · rw [List.getElem?_eq_none (by omega), List.getElem?_eq_none (by simp; omega)]
      rw [this] at ho
      exact ⟨ho, hc.weaken fun i _ x => by simp [Value.ownBlock, x]⟩

/-- From a node up to the root: the bytes that led there, the last one first. -/
def up (T : List TN) : Nat → Int → List UInt8
  | 0, _ => []
  | f + 1, n => match nodeM T n with
    | some x => if 0 ≤ x.par then x.c :: up T f x.par else []
    | none => []
def pathM (T : List TN) (n : Int) : List UInt8 := (up T T.length n).reverse

theorem nodeM_none {T : List TN} {n : Int} (h : ¬ (0 ≤ n ∧ n < T.length)) : nodeM T n = none := by simp only [nodeM]; rw [if_neg h]
theorem nodeM_some {T : List TN} {n : Int} {x : TN} (h : nodeM T n = some x) : 0 ≤ n ∧ n < T.length ∧ T[n.toNat]? = some x := by
  unfold nodeM at h
  split at h
  · rename_i hh
    exact ⟨hh.1, hh.2, h⟩
  · cases h

theorem up_fuel {T : List TN} (wf : ∀ i (hi : i < T.length), -1 ≤ T[i].par ∧ T[i].par < i) : ∀ (f g : Nat) (n : Int), n < f → n < g → up T f n = up T g n := by
  have zero : ∀ (g : Nat) (n : Int), n < 0 → up T g n = [] := by
    intro g n h
    cases g with
    | zero => rfl
    | succ g => simp only [up, nodeM_none (show ¬ (0 ≤ n ∧ n < T.length) by omega)]
  intro f
  induction f with
  | zero => intro g n h _; rw [zero g n h]; rfl
  | succ f ih =>
    intro g n hf hg
    cases g with
    | zero => rw [zero _ n hg]; rfl
    | succ g =>
      simp only [up]
      cases hx : nodeM T n with
      | none => rfl
      | some x =>
        obtain ⟨h0, h1, h2⟩ := nodeM_some hx
        obtain ⟨hlt, he⟩ := List.getElem?_eq_some_iff.1 h2
        have := wf n.toNat hlt
        rw [he] at this
        simp only
        split
        · rw [ih g x.par (by omega) (by omega)]
        · rfl

theorem up_step {T : List TN} (wf : ∀ i (hi : i < T.length), -1 ≤ T[i].par ∧ T[i].par < i) {n : Int} {x : TN} (h : nodeM T n = some x) (hx : 0 ≤ x.par) : up T T.length n = x.c :: up T T.length x.par := by
  obtain ⟨h0, h1, h2⟩ := nodeM_some h
  obtain ⟨hlt, he⟩ := List.getElem?_eq_some_iff.1 h2
  have := wf n.toNat hlt
  rw [he] at this
  rw [up_fuel wf T.length (T.length + 1) n (by omega) (by omega)]
  simp only [up, h, if_pos hx]
theorem up_stop {T : List TN} {n : Int} (h : ∀ x, nodeM T n = some x → ¬ 0 ≤ x.par) : up T T.length n = [] := by
  cases hl : T.length with
  | zero => rfl
  | succ f =>
    simp only [up]
    cases hx : nodeM T n with
    | none => rfl
    | some x => simp only [if_neg (h x hx)]

section
variable {w : World} {lo hi b : Nat} {T : List TN}

set_option maxRecDepth 4000 in
theorem trie_PathR (h : IsTrie w lo hi b T) (n : Int) : RET Tryz.prog 44 [.pointer (some ⟨b, 0, none⟩), .int .i64 n] w fun v w' => (∃ m, w'.ownsRow w.heap.size 5 1 v m ((pathM T n).map vB) ∧ (pathM T n).length ≤ 140737488355328) ∧ Ext w w' := by
  apply by_trie_Trie_Path
  unfold sh_trie_Trie_Path
  refine ⟨fun node out w1 => ∃ (n' : Int) (xs : List UInt8) (m : Nat), node = .int .i64 n' ∧ Ext w w1 ∧ w1.ownsRow w.heap.size 5 1 out m (xs.map vB) ∧ xs ++ up T T.length n' = up T T.length n ∧ (m = 0 ∨ m + n' + 1 ≤ T.length ∧ -1 ≤ n'),
    fun node _ _ => match node with | .int _ n' => if 0 ≤ n' ∧ n' < T.length then n'.toNat + 1 else 0 | _ => 0, ⟨n, [], 0, rfl, Ext.refl w, World.ownsRow_nil _ _ _ _, rfl, .inl rfl⟩, ?_⟩
  rintro node out w1 ⟨n', xs, m, rfl, he, ho, hu, hm⟩
  have h1 := h.ext he
  have hs := h.small
  obtain ⟨nb, cap, mb, h0, hm', hmm, hn⟩ := h1.reads
  obtain ⟨a, c, rfl⟩ : ∃ a c, out = .slice a m c := by
    rcases ho.2 with ⟨rfl, rfl⟩ | ⟨g, cap, _, rfl, _⟩
    · exact ⟨_, _, rfl⟩
    · exact ⟨_, _, rfl⟩
  have fin : ∀ (hstop : ∀ x, nodeM T n' = some x → ¬ 0 ≤ x.par), RET Tryz.prog 67 [.slice a m c] w1 fun v w' => (∃ m', w'.ownsRow w.heap.size 5 1 (.slice a m c) m' ((pathM T n).map vB) ∧ (pathM T n).length ≤ 140737488355328) ∧ Ext w w' := by
    intro hstop
    rw [up_stop hstop, List.append_nil] at hu
    have hml : m = xs.length := by have := ho.1; simp at this; omega
    refine (slices_Reverse ho (by omega)).mono fun v w' ⟨k1, k2⟩ => ⟨?_, he.ext_of k2 fun i hi => row_base ho i hi⟩
    unfold pathM
    rw [← hu]
    exact ⟨m, k1, by simp; omega⟩
  by_cases hgo : ∃ x, nodeM T n' = some x ∧ 0 ≤ x.par
  · obtain ⟨x, hx, hp⟩ := hgo
    obtain ⟨i0, i1, i2⟩ := nodeM_some hx
    have hhn := hn n'.toNat (by omega)
    obtain ⟨hlt, hxe⟩ := List.getElem?_eq_some_iff.1 i2
    rw [hxe] at hhn
    have hwf := h.wf n'.toNat hlt
    rw [hxe] at hwf
    refine ⟨fun w2 => w2 = w1, ?_, ?_⟩
    · refine CALL_of (trie_is h1 n') ?_
      rintro v w' ⟨rfl, rfl⟩
      simp (disch := omega) only [SX, Nat.reduceAdd, show 0 ≤ n' ∧ n' < (T.length : Int) from ⟨i0, i1⟩, and_self, LD_130 h0, LD_3 hhn.1, hp]
    · rintro w2 rfl
      simp (disch := omega) only [SX, Nat.reduceAdd, LD_130 h0, LD_5 hhn.2.2.2]
      refine BS_23_1 fun w3 hb he3 hz3 => ?_
      have ho3 := row_ext ho he3
      refine PUSH1 (by kernel_rfl) IN_5 rfl ho3 hb rfl (by unfold maxLen; omega) (by omega) (by have := he.size; omega) fun v' w4 ho4 hc4 hg4 => ?_
      have he4 : Ext w w4 := (he.trans he3).ext_of hc4 fun i hi => row_base ho3 i hi
      obtain ⟨nb, cap, mb, h0, hm', hmm, hn⟩ := (h.ext he4).reads
      have hhn := hn n'.toNat (by omega)
      rw [hxe] at hhn
      simp (disch := omega) only [SX, Nat.reduceAdd, LD_130 h0, LD_3 hhn.1]
      refine ⟨⟨x.par, xs ++ [x.c], m + 1, rfl, he4, by rw [List.map_append]; exact ho4, ?_, by omega⟩, ?_⟩
      · rw [List.append_assoc, ← hu, up_step h.wf hx hp]; rfl
      · rw [if_pos (show 0 ≤ n' ∧ n' < (T.length : Int) from ⟨i0, i1⟩), if_pos (by omega)]; omega
  · have hstop : ∀ x, nodeM T n' = some x → ¬ 0 ≤ x.par := fun x hx hp => hgo ⟨x, hx, hp⟩
    refine ⟨fun _ => False, ?_, fun _ hf => hf.elim⟩
    refine CALL_of (trie_is h1 n') ?_
    rintro v w' ⟨rfl, rfl⟩
    by_cases hi : 0 ≤ n' ∧ n' < T.length
    · have hhn := hn n'.toNat (by omega)
      have hp : ¬ 0 ≤ (T[n'.toNat]'(by omega)).par := hstop _ (nodeM_in hi)
      simp (disch := omega) only [SX, Nat.reduceAdd, hi, and_self, LD_130 h0, LD_3 hhn.1, hp]
      exact CALL_of (fin hstop) fun v w' h => h
    · simp (disch := omega) only [SX, Nat.reduceAdd, hi]
      exact CALL_of (fin hstop) fun v w' h => h
theorem trie_Path (h : IsTrie w lo hi b T) (n : Int) : RET Tryz.prog 44 [.pointer (some ⟨b, 0, none⟩), .int .i64 n] w fun v w' => SlB w' v (pathM T n) ∧ Ext w w' :=
  (trie_PathR h n).mono fun v w' ⟨⟨m, h1, h2⟩, e⟩ => ⟨(SlB.of_row h1 h2).1, e⟩

theorem updE_none {kvs : List KV} {n c v : Int} (h : lookE kvs n c = none) : updE kvs n c v = kvs ++ [((n, c), v)] := by
  induction kvs with
  | nil => rfl
  | cons x r ih =>
    simp only [lookE] at h
    split at h
    · cases h
    · rename_i hn
      simp only [updE, if_neg hn, ih h, List.cons_append]
theorem ents_append (l : List TN) (x : TN) : ∀ i, ents i (l ++ [x]) = ents i l ++ [((x.par, (x.c.toNat : Int)), ((i + l.length : Nat) : Int))] := by
  induction l with
  | nil => intro i; rfl
  | cons y l ih => intro i; simp only [List.cons_append, ents, ih, List.length_cons]; congr 4; omega

/-- What a byte leads to, made if it isn't there. -/
def growM (T : List TN) (n : Int) (c : UInt8) : Int × List TN := match lookE (ents 1 T.tail) n c.toNat with
  | some x => (x, T)
  | none => (T.length, T ++ [⟨n, ((nodeM T n).map TN.dep).getD 0 + 1, -1, c⟩])

set_option maxRecDepth 4000 in
theorem trie_grow (h : IsTrie w lo hi b T) (n : Int) (c : UInt8) (hn : 0 ≤ n ∧ n < T.length) (hs : T.length + 1 ≤ 2 ^ 40) (hhi' : hi ≤ w.heap.size) : RET Tryz.prog 61 [.pointer (some ⟨b, 0, none⟩), .int .i64 n, .int .u8 c.toNat] w fun v w' => v = .int .i64 (growM T n c).1 ∧ IsTrie w' lo w'.heap.size b (growM T n c).2 ∧ Chg (fun i => lo ≤ i ∧ i < hi) w w' := by
  have hhi : b < w.heap.size := h.lt
  apply by_trie_Trie_grow
  unfold sh_trie_Trie_grow
  simp (disch := omega) only [SX, Nat.reduceAdd]
  refine AL_164 fun w1 o1 e1 z1 => ?_
  refine STOREA SZ_164 rfl o1 (by simp) (by simp [Value.oneCell']) fun w2 o2 c2 z2 => ?_
  have e2 : Ext w w2 := e1.ext_of c2 fun i hi => by omega
  obtain ⟨nb, cap, mb, h0, h1, hm, hnn⟩ := (h.ext e2).reads
  have hcell := cellsAt_own o2 2 0 (by simp [putAt])
  simp only [putAt, List.set_cons_zero, List.set_cons_succ, List.drop_zero, List.take_succ_cons, List.take_zero] at hcell
  simp (disch := omega) only [SX, Nat.reduceAdd, DRAWQ, RD_131 h1, RA_164 hcell, RL_131 hm]
  cases hl : lookE (ents 1 T.tail) n c.toNat with
  | some x =>
    simp (disch := omega) only [Option.isSome_some, SX, Nat.reduceAdd]
    have hg : growM T n c = (x, T) := by simp [growM, hl]
    rw [hg]
    exact ⟨by simp, ((h.ext e2).mono (Nat.le_refl _) (Nat.le_trans hhi' e2.size)).ext (Ext.drew _), (e2.trans (Ext.drew _)).chg⟩
  | none =>
    have e3 : Ext w w2.drew := e2.trans (Ext.drew _)
    have hT3 := h.ext e3
    have hcell' : cellsAt w2.drew w.heap.size 0 2 = some [.int .i64 n, .int .u8 c.toNat] := cellsAt_own (o2.drew) 2 0 (by simp [putAt])
    have hw3 : ∀ {X : Prop}, (∀ w3, Ext w w3 → IsTrie w3 lo hi b T → cellsAt w3 w.heap.size 0 2 = some [.int .i64 n, .int .u8 c.toNat] → w.heap.size ≤ w3.heap.size → w3 = w2.drew → X) → X := fun k => k _ e3 hT3 hcell' e3.size rfl
    refine hw3 fun w3 e3 hT3 hcell' hz3 hw => ?_
    rw [← hw]
    clear hw hw3 h0 h1 hm hnn o1 o2 hcell
    obtain ⟨nb, cap, mb, h0, h1, hm, hnn⟩ := id hT3.reads
    obtain ⟨⟨nb', cap', mb', g1, g2, g3, g4, g4', g5, g5', g6⟩, hpos, hsm, hde, hwf⟩ := hT3
    obtain ⟨rfl, rfl⟩ : nb = nb' ∧ cap = cap' := by have := h0.symm.trans (g1.cell rfl); simpa using this
    obtain rfl : mb = mb' := by have := h1.symm.trans (g1.cell rfl); simpa using this
    have hnb : lo ≤ nb := row_base g2 nb rfl
    have nbmb : nb ≠ mb := by
      rintro rfl
      rcases g2.2 with ⟨k, _⟩ | ⟨g, _, _, k, _, k2, _⟩
      · cases k
      · injection k with k; injection k with k; injection k with k; subst k
        obtain ⟨_, _, k3, _⟩ := g3
        rw [k2] at k3; cases k3
    have nbb : nb ≠ b := by
      rintro rfl
      rcases g2.2 with ⟨k, _⟩ | ⟨g, _, _, k, _, k2, _⟩
      · cases k
      · injection k with k; injection k with k; injection k with k; subst k
        have k3 : w3.heap[nb]? = _ := g1
        rw [k2] at k3
        injection k3 with k3
        injection k3 with _ k3
        revert k3
        decide
    have mbb : mb ≠ b := by
      rintro rfl
      obtain ⟨_, _, k3, _⟩ := g3
      rw [show w3.heap[mb]? = _ from g1] at k3; cases k3
    simp (disch := omega) only [Option.isSome_none, SX, Nat.reduceAdd, DRAWQ, LD_130 h0, RD_131 h1, RA_164 hcell']
    refine MU_131 (show MapE w3.drew mb _ from hm) fun w4 m4 c4 z4 => ?_
    have c4 : Chg (fun j => j = mb) w3 w4 := c4.of_drew
    have hlt4 : w3.heap.size ≤ w4.heap.size := c4.size
    have g1' := g1.chg c4 (fun k => mbb k.symm)
    have g2' := row_chg g2 c4 (fun k hk => by simp [Value.ownBlock] at hk; omega)
    have hn4 := hnn n.toNat (by omega)
    have c4d := c4.cell hn4.2.1 nbmb
    have h04 := c4.cell h0 (fun k => mbb k.symm)
    have hd := hde _ (List.getElem_mem (show n.toNat < T.length by omega))
    have row0 : (Addr.mk b 0 none).block = b := rfl
    refine ⟨KP (fun _ => False) w4, KP.refl _ _, ?_⟩
    simp (disch := omega) only [SX, Nat.reduceAdd, RK_130 (X := fun _ => False) h04 (fun x => x) (KP.refl _ _), RK_3 (X := fun _ => False) c4d (fun x => x) (KP.refl _ _)]
    refine BS_130_1 fun w5 o5 e5 z5 => KEEP (KP.then (KP.refl _ _) (Nat.le_refl _) e5 (fun _ _ x => x)) ?_
    have e5 : Ext w4 w5 := e5.of_drew
    have hg : growM T n c = ((T.length : Int), T ++ [⟨n, T[n.toNat].dep + 1, -1, c⟩]) := by simp [growM, hl, nodeM_in hn]
    refine APPEND (by kernel_rfl) IN_129 rfl (by omega) (row_ext g2' e5) (news := TN.cells ⟨n, T[n.toNat].dep + 1, -1, c⟩) (by simp [TN.cells]) (fun j u hj => by rw [addr_add]; exact o5.cell (by simpa [TN.cells] using hj)) (by simp [TN.cells, Value.oneCell']) (by omega) (by unfold maxLen; omega) (by omega) (by have := e3.size; have := e5.size; omega) fun g cap' w6 o6 c6 g6' => ?_
    have hg6 : g = nb ∨ g = w5.heap.size := by
      rcases g6' with g6' | g6'
      · exact .inl (by simpa [Value.ownBlock] using g6'.symm)
      · exact .inr g6'
    have c6 : Chg (fun j => j = nb) w5 w6 := c6.weaken fun i _ x => by simpa [Value.ownBlock] using x
    have hb5 := g1'.ext e5
    have hb6 := hb5.chg c6 (fun k => nbb k.symm)
    try simp (disch := omega) only [SX, Nat.reduceAdd]
    refine STORE SZ_130 hb6 (by simp) rfl rfl fun w7 o7 c7 z7 => ?_
    have hgb : g ≠ b := by
      have := g1'.lt
      have := e5.size
      omega
    have hg7 : g ≠ mb := by
      have := m4.lt
      have := e5.size
      omega
    have hz7 : w.heap.size ≤ w7.heap.size := by have := e5.size; have := c6.size; omega
    have o6' := row_chg o6 c7 (fun k hk => by simp [Value.ownBlock] at hk; omega)
    have hgl : g < w7.heap.size := by
      obtain ⟨g', _, _, k, _, k2, _⟩ := o6'.2.resolve_left (by rintro ⟨k, _⟩; cases k)
      injection k with k; injection k with k; injection k with k; subst k
      exact (Array.getElem?_eq_some_iff.1 k2).1
    have m7 := ((m4.ext e5).chg c6 (fun k => nbmb k.symm)).chg c7 mbb
    have htail : (T ++ [(⟨n, T[n.toNat].dep + 1, -1, c⟩ : TN)]).tail = T.tail ++ [⟨n, T[n.toNat].dep + 1, -1, c⟩] := by
      cases T with
      | nil => simp at hpos
      | cons x T => rfl
    have hlen : (T ++ [(⟨n, T[n.toNat].dep + 1, -1, c⟩ : TN)]).length = T.length + 1 := by simp
    refine ⟨by rw [hg], ?_, ?_⟩
    · rw [hg]
      refine ⟨⟨g, cap', mb, ?_, ?_, ?_, g4, by omega, g5, by omega, hgl⟩, by simp, by simp; omega, ?_, ?_⟩
      · rw [hlen]; exact o7
      · rw [hlen, List.flatMap_append]; exact o6'
      · rw [htail, ents_append]
        have : 1 + T.tail.length = T.length := by rw [List.length_tail]; omega
        rw [this]
        rw [updE_none hl] at m7
        exact m7
      · intro x hx
        rw [hlen]
        rcases List.mem_append.1 hx with hx | hx
        · have := hde x hx; omega
        · simp at hx; subst hx; simp only; omega
      · intro i hi
        by_cases hii : i < T.length
        · rw [List.getElem_append_left hii]; exact hwf i hii
        · have : i = T.length := by rw [hlen] at hi; omega
          subst this
          simp only [List.getElem_append_right (Nat.le_refl _), Nat.sub_self, List.getElem_cons_zero]
          omega
    · have q3 : Chg (fun i => lo ≤ i ∧ i < hi) w w3 := e3.chg
      have q4 := q3.then c4 (fun _ _ x => x) (fun i _ x => by subst x; exact ⟨g5, g5'⟩)
      have q5 := q4.then e5 (fun _ _ x => x) (fun i _ x => x.elim)
      have q6 := q5.then c6 (fun _ _ x => x) (fun i _ x => by subst x; exact ⟨hnb, g6⟩)
      exact q6.then c7 (fun _ _ x => x) (fun i _ x => by subst x; exact ⟨g4, g4'⟩)
end
end Go.Proofs.YtgjfhmahiiokeaaGreat.Y
