import Derived.Test.YtgjfhmahiiokeaaGreatSlices
set_option linter.unusedVariables false
set_option linter.unusedSimpArgs false
set_option linter.unusedVariables false
set_option linter.unusedSimpArgs false
set_option maxRecDepth 8000
namespace Go.Proofs.YtgjfhmahiiokeaaGreat.Y
open Go Go.Sx

/-! ### A row of texts of one's own -/
theorem SlB.chg' {S : Nat → Prop} {w w' : World} {v : Value} {l : List UInt8} (h : SlB w v l) (hc : Chg S w w') (hs : l ≠ [] → ∀ k, v.ownBlock = some k → ¬ S k) : SlB w' v l := by
  by_cases hl : l = []
  · subst hl
    obtain ⟨A, c, rfl, _, h1, h2⟩ := h
    exact ⟨A, c, rfl, .inl rfl, h1, h2⟩
  · exact h.chg hc (hs hl)
theorem SlB.blk {w : World} {v : Value} {l : List UInt8} (h : SlB w v l) (hl : l ≠ []) {k : Nat} (hk : v.ownBlock = some k) : k < w.heap.size := by
  obtain ⟨A, c, rfl, hr, _, _⟩ := h
  obtain ⟨b, o, rfl, hb⟩ := hr.lt (by simpa using hl)
  simp only [Value.ownBlock, Option.map_some, Option.some.injEq] at hk
  omega
structure RowT (w : World) (base lo : Nat) (v : Value) (ls : List (List UInt8)) : Prop where
  ex : ∃ hs, w.ownsRow base 23 1 v ls.length hs ∧ hs.length = ls.length ∧ ∀ i (h : i < ls.length) (h' : i < hs.length), SlB w hs[i] ls[i] ∧ (ls[i] ≠ [] → ∀ k, hs[i].ownBlock = some k → lo ≤ k ∧ k < w.heap.size ∧ v.ownBlock ≠ some k)
theorem RowT.nil (w : World) (base lo : Nat) : RowT w base lo (.slice none 0 0) [] := ⟨[], World.ownsRow_nil _ _ _ _, rfl, fun i h => by simp at h⟩
theorem RowT.chg {S : Nat → Prop} {w w' : World} {base lo : Nat} {v : Value} {ls : List (List UInt8)} (h : RowT w base lo v ls) (hc : Chg S w w') (hs : ∀ i, S i → (i < lo ∧ i < base) ∨ w.heap.size ≤ i) : RowT w' base lo v ls := by
  obtain ⟨xs, h1, h2, h3⟩ := h.ex
  have hz := hc.size
  refine ⟨xs, row_chg h1 hc (fun k hk hS => ?_), h2, fun i hi hi' => ?_⟩
  · have := hs k hS; have := h1.lt k hk; omega
  · obtain ⟨k1, k2⟩ := h3 i hi hi'
    exact ⟨SlB.chg' k1 hc (fun hne k hk hS => by have := hs k hS; have := k2 hne k hk; omega), fun hne k hk => by have := k2 hne k hk; exact ⟨by omega, by omega, this.2.2⟩⟩
theorem RowT.ext {w w' : World} {base lo : Nat} {v : Value} {ls : List (List UInt8)} (h : RowT w base lo v ls) (hc : Ext w w') : RowT w' base lo v ls := h.chg hc fun _ x => x.elim
theorem RowT.slT {w : World} {base lo : Nat} {v : Value} {ls : List (List UInt8)} (h : RowT w base lo v ls) (hl : ls.length ≤ 140737488355328) : SlT w v ls := by
  obtain ⟨hs, h1, h2, h3⟩ := h.ex
  obtain ⟨A, c, rfl, hc⟩ := row_shape h1
  exact ⟨A, c, hs, rfl, Rd.row h1, h2, hc, hl, fun i hi hi' => (h3 i hi hi').1⟩

/-- One text more. -/
theorem PUSHT {w : World} {base lo : Nat} {v u : Value} {t : List UInt8} {ls : List (List UInt8)} {K : Value → World → Prop} (h : RowT w base lo v ls) (hu : SlB w u t) (hub : t ≠ [] → ∀ k, u.ownBlock = some k → lo ≤ k ∧ k < w.heap.size ∧ v.ownBlock ≠ some k)
    (hb : base ≤ w.heap.size) (hn : ls.length + 1 ≤ 2 ^ 40) (k : ∀ v' w', RowT w' base lo v' (ls ++ [t]) → Chg (fun j => some j = v.ownBlock) w w' → (∀ j, v'.ownBlock = some j → v.ownBlock = some j ∨ w.heap.size ≤ j) → K v' w') :
    RUN Tryz.prog (Instr.buildSlice 22 1 #[(0, u)]) w fun x w => RUN Tryz.prog (Builtin.append_ #[22, 22] 22 #[v, x]) w K := by
  obtain ⟨hs, h1, h2, h3⟩ := h.ex
  obtain ⟨A, c, rfl⟩ := hu.shape
  refine BS_22_1 fun w1 o1 e1 z1 => ?_
  have hr := row_ext h1 e1
  refine PUSH1 (by kernel_rfl) IN_23 rfl hr o1 rfl (by unfold maxLen; omega) (by omega) (by omega) fun v' w2 o2 c2 g2 => ?_
  have z2 := c2.size
  refine k v' w2 ⟨hs ++ [.slice A t.length c], by simpa using o2, by simp [h2], fun i hi hi' => ?_⟩ (e1.chg.then c2 (fun _ _ x => x) (fun _ _ x => x)) (fun j hj => ?_)
  · have nb : ∀ k, k < w.heap.size → v.ownBlock ≠ some k → k < w2.heap.size ∧ v'.ownBlock ≠ some k ∧ ¬ some k = v.ownBlock := fun k h1 h2 => by
      refine ⟨by omega, fun hk => ?_, fun hk => h2 hk.symm⟩
      rcases g2 with g2 | g2
      · rw [g2] at hk; exact h2 hk
      · rw [g2] at hk; injection hk with hk; omega
    by_cases hl : i < ls.length
    · obtain ⟨k1, k2⟩ := h3 i hl (by omega)
      simp only [List.getElem_append_left hl, List.getElem_append_left (show i < hs.length by omega)]
      refine ⟨SlB.chg' (k1.ext e1) c2 (fun hne k hk => ?_), fun hne k hk => ?_⟩
      · have := k2 hne k hk; exact (nb k this.2.1 this.2.2).2.2
      · have := k2 hne k hk; have n := nb k this.2.1 this.2.2; exact ⟨this.1, n.1, n.2.1⟩
    · have hie : i = ls.length := by simp only [List.length_append, List.length_cons, List.length_nil] at hi; omega
      subst hie
      have g1 : (ls ++ [t])[ls.length]'hi = t := by simp
      have g2' : (hs ++ [Value.slice A t.length c])[ls.length]'hi' = .slice A t.length c := by simp [h2]
      rw [g1, g2']
      refine ⟨SlB.chg' (hu.ext e1) c2 (fun hne k hk => ?_), fun hne k hk => ?_⟩
      · have := hub hne k hk; exact (nb k this.2.1 this.2.2).2.2
      · have := hub hne k hk; have n := nb k this.2.1 this.2.2; exact ⟨this.1, n.1, n.2.1⟩
  · rcases g2 with g2 | g2
    · left; rw [← g2]; exact hj
    · right; rw [g2] at hj; injection hj with hj; omega

/-- One text more, in a region that draws. -/
theorem PUSHTS {S : World → Prop} {w : World} {base lo : Nat} {v u : Value} {t : List UInt8} {ls : List (List UInt8)} {K : Value → World → Prop} (h : RowT w base lo v ls) (hu : SlB w u t) (hub : t ≠ [] → ∀ k, u.ownBlock = some k → lo ≤ k ∧ k < w.heap.size ∧ v.ownBlock ≠ some k)
    (hS : ∀ w1, Ext w w1 → S w1) (hb : base ≤ w.heap.size) (hn : ls.length + 1 ≤ 2 ^ 40) (k : ∀ v' w', RowT w' base lo v' (ls ++ [t]) → Chg (fun j => some j = v.ownBlock) w w' → (∀ j, v'.ownBlock = some j → v.ownBlock = some j ∨ w.heap.size ≤ j) → K v' w') :
    RUN Tryz.prog (Instr.buildSlice 22 1 #[(0, u)]) w fun x w => KEEPS S w fun S => RUN Tryz.prog (Builtin.append_ #[22, 22] 22 #[v, x]) w K := by
  obtain ⟨hs, h1, h2, h3⟩ := h.ex
  obtain ⟨A, c, rfl⟩ := hu.shape
  refine BS_22_1 fun w1 o1 e1 z1 => ?_
  have hr := row_ext h1 e1
  refine KEEP (hS _ e1) ?_
  refine PUSH1 (by kernel_rfl) IN_23 rfl hr o1 rfl (by unfold maxLen; omega) (by omega) (by omega) fun v' w2 o2 c2 g2 => ?_
  have z2 := c2.size
  refine k v' w2 ⟨hs ++ [.slice A t.length c], by simpa using o2, by simp [h2], fun i hi hi' => ?_⟩ (e1.chg.then c2 (fun _ _ x => x) (fun _ _ x => x)) (fun j hj => ?_)
  · have nb : ∀ k, k < w.heap.size → v.ownBlock ≠ some k → k < w2.heap.size ∧ v'.ownBlock ≠ some k ∧ ¬ some k = v.ownBlock := fun k h1 h2 => by
      refine ⟨by omega, fun hk => ?_, fun hk => h2 hk.symm⟩
      rcases g2 with g2 | g2
      · rw [g2] at hk; exact h2 hk
      · rw [g2] at hk; injection hk with hk; omega
    by_cases hl : i < ls.length
    · obtain ⟨k1, k2⟩ := h3 i hl (by omega)
      simp only [List.getElem_append_left hl, List.getElem_append_left (show i < hs.length by omega)]
      refine ⟨SlB.chg' (k1.ext e1) c2 (fun hne k hk => ?_), fun hne k hk => ?_⟩
      · have := k2 hne k hk; exact (nb k this.2.1 this.2.2).2.2
      · have := k2 hne k hk; have n := nb k this.2.1 this.2.2; exact ⟨this.1, n.1, n.2.1⟩
    · have hie : i = ls.length := by simp only [List.length_append, List.length_cons, List.length_nil] at hi; omega
      subst hie
      have g1 : (ls ++ [t])[ls.length]'hi = t := by simp
      have g2' : (hs ++ [Value.slice A t.length c])[ls.length]'hi' = .slice A t.length c := by simp [h2]
      rw [g1, g2']
      refine ⟨SlB.chg' (hu.ext e1) c2 (fun hne k hk => ?_), fun hne k hk => ?_⟩
      · have := hub hne k hk; exact (nb k this.2.1 this.2.2).2.2
      · have := hub hne k hk; have n := nb k this.2.1 this.2.2; exact ⟨this.1, n.1, n.2.1⟩
  · rcases g2 with g2 | g2
    · left; rw [← g2]; exact hj
    · right; rw [g2] at hj; injection hj with hj; omega

/-- Such a row, all of it in blocks from lo on and ahead of hi. -/
structure RowH (w : World) (lo hi : Nat) (v : Value) (ls : List (List UInt8)) : Prop where
  ex : ∃ hs, w.ownsRow lo 23 1 v ls.length hs ∧ hs.length = ls.length ∧ (∀ i (h : i < ls.length) (h' : i < hs.length), SlB w hs[i] ls[i] ∧ (ls[i] ≠ [] → ∀ k, hs[i].ownBlock = some k → lo ≤ k ∧ k < hi)) ∧ ∀ k, v.ownBlock = some k → k < hi
theorem RowH.chg {S : Nat → Prop} {w w' : World} {lo hi : Nat} {v : Value} {ls : List (List UInt8)} (h : RowH w lo hi v ls) (hc : Chg S w w') (hs : ∀ i, S i → i < lo ∨ hi ≤ i) : RowH w' lo hi v ls := by
  obtain ⟨xs, h1, h2, h3, h4⟩ := h.ex
  refine ⟨xs, row_chg h1 hc (fun k hk hS => ?_), h2, fun i hi hi' => ?_, h4⟩
  · have := hs k hS; have := h4 k hk; have := row_base h1 k hk.symm; omega
  · obtain ⟨k1, k2⟩ := h3 i hi hi'
    exact ⟨SlB.chg' k1 hc (fun hne k hk hS => by have := hs k hS; have := k2 hne k hk; omega), k2⟩
theorem RowH.ext {w w' : World} {lo hi : Nat} {v : Value} {ls : List (List UInt8)} (h : RowH w lo hi v ls) (hc : Ext w w') : RowH w' lo hi v ls := h.chg hc fun _ x => x.elim
theorem RowH.slT {w : World} {lo hi : Nat} {v : Value} {ls : List (List UInt8)} (h : RowH w lo hi v ls) (hl : ls.length ≤ 140737488355328) : SlT w v ls := by
  obtain ⟨hs, h1, h2, h3, h4⟩ := h.ex
  obtain ⟨A, c, rfl, hc⟩ := row_shape h1
  exact ⟨A, c, hs, rfl, Rd.row h1, h2, hc, hl, fun i hi hi' => (h3 i hi hi').1⟩
theorem RowT.rowH {w : World} {base lo : Nat} {v : Value} {ls : List (List UInt8)} (h : RowT w base lo v ls) {lo' : Nat} (h1 : lo' ≤ base) (h2 : lo' ≤ lo) : RowH w lo' w.heap.size v ls := by
  obtain ⟨hs, k1, k2, k3⟩ := h.ex
  exact ⟨hs, row_mono k1 h1, k2, fun i hi hi' => ⟨(k3 i hi hi').1, fun hne k hk => by have := (k3 i hi hi').2 hne k hk; omega⟩, fun k hk => (k1.lt k hk).2⟩

section
variable {w : World} {v : Value}
theorem slB_sub {A : Option Addr} {n c : Nat} {l : List UInt8} (h : SlB w (.slice A n c) l) {a m : Nat} (hm : a + m ≤ l.length) : SlB w (.slice (sub A c a 1) m (c - a)) ((l.drop a).take m) := by
  obtain ⟨A', c', he, hr, h1, h2⟩ := h
  injection he with e1 e2 e3
  subst e1 e2 e3
  have hlen : ((l.drop a).take m).length = m := by rw [List.length_take, List.length_drop]; omega
  refine ⟨_, _, by rw [hlen], ?_, by omega, by omega⟩
  rcases hr with hr | ⟨b, o, rfl, hr⟩
  · left
    have : l = [] := by simpa using hr
    subst this
    simp
  · unfold sub
    by_cases hca : c = a
    · left
      have : m = 0 := by omega
      subst this
      simp
    · rw [if_neg hca]
      right
      refine ⟨b, o + a, by simp [addr_add], fun i v hi => ?_⟩
      rw [Nat.add_assoc]
      apply hr
      rw [List.getElem?_map] at hi ⊢
      rw [List.getElem?_take] at hi
      split at hi
      · rw [List.getElem?_drop] at hi; exact hi
      · cases hi

theorem slB_drop {A : Option Addr} {n c : Nat} {l : List UInt8} (h : SlB w (.slice A n c) l) {a : Nat} (ha : a ≤ l.length) : SlB w (.slice (sub A c a 1) (l.length - a) (c - a)) (l.drop a) := by
  have := slB_sub h (a := a) (m := l.length - a) (by omega)
  rwa [List.take_of_length_le (by rw [List.length_drop]; omega)] at this
theorem slices_CloneR {l : List UInt8} (h : SlB w v l) : RET Tryz.prog 26 [v] w fun v' w' => w'.ownsRow w.heap.size 5 1 v' l.length (l.map vB) ∧ Ext w w' := by
  have hl := h.len
  refine RET_by fun R k => ?_
  apply by_slices_Clone_byte_byte
  unfold sh_slices_Clone_byte_byte
  obtain ⟨A, c, rfl, hr, hc, _⟩ := id h
  cases A with
  | none =>
    have : l = [] := by
      cases l with
      | nil => rfl
      | cons x l => rcases hr with hr | ⟨_, _, hr, _⟩ <;> cases hr
    subst this
    simp (disch := omega) only [SX, Nat.reduceAdd]
    exact k _ _ ⟨World.ownsRow_nil _ _ _ _, Ext.refl w⟩
  | some a =>
    simp (disch := omega) only [SX, Nat.reduceAdd]
    refine BS_23_0 fun w1 o1 e1 z1 => ?_
    have ho := row_own (size := 1) (n := 0) o1 rfl (by unfold maxLen; decide) w.heap.size (Nat.le_refl _)
    cases hn : l with
    | nil =>
      refine APPENDZ (by kernel_rfl) SZ_5 _ _ _ _ _ (Nat.le_refl _) ?_
      exact k _ _ ⟨by rw [hn]; exact ho, e1⟩
    | cons x r =>
      rw [← hn]
      have h0 : 0 < l.length := by rw [hn]; simp
      refine APPEND (by kernel_rfl) IN_5 rfl (by omega) ho (news := l.map vB) (by simp) (fun j u hj => ?_) (by simp [vB, Value.oneCell']) h0 (by unfold maxLen; omega) (by omega) (by omega) fun g cap w2 o2 c2 g2 => ?_
      · rcases hr.ext e1 with hr | ⟨b, o, hb, hq⟩
        · simp [hn] at hr
        · injection hb with hb
          subst hb
          rw [addr_add]
          exact hq j u hj
      · rw [Nat.zero_add] at *
        exact k _ _ ⟨o2, e1.ext_of c2 (fun i hi => row_base ho i hi)⟩
end
end Go.Proofs.YtgjfhmahiiokeaaGreat.Y
