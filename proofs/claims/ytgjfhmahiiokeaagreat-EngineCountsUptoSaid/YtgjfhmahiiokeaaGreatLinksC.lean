import Derived.Test.YtgjfhmahiiokeaaGreatLinksB
set_option linter.unusedVariables false
set_option linter.unusedSimpArgs false
set_option linter.unusedVariables false
set_option linter.unusedSimpArgs false
set_option maxRecDepth 8000
namespace Go.Proofs.YtgjfhmahiiokeaaGreat.Y
open Go Go.Sx

/-! ### The links of a tree: their making -/
/-- Blocks of numbers, made since w0. -/
def St (w0 w : World) (A : List (Nat × List Int)) : Prop := Ext w0 w ∧ (∀ x ∈ A, w0.heap.size ≤ x.1 ∧ x.1 < w.heap.size ∧ Own w x.1 (x.2.map vI) 3) ∧ (A.map (·.1)).Nodup

theorem St.add {w0 w w' : World} {A : List (Nat × List Int)} (h : St w0 w A) (he : Ext w w') {g : Nat} {l : List Int} (hg : w.heap.size ≤ g) (ho : Own w' g (l.map vI) 3) : St w0 w' ((g, l) :: A) := by
  refine ⟨h.1.trans he, ?_, ?_⟩
  · intro x hx
    rcases List.mem_cons.1 hx with rfl | hx
    · exact ⟨by have := h.1.size; simp only; omega, ho.lt, ho⟩
    · obtain ⟨h1, h2, h3⟩ := h.2.1 x hx
      exact ⟨h1, by have := he.size; omega, h3.ext he⟩
  · rw [List.map_cons, List.nodup_cons]
    refine ⟨?_, h.2.2⟩
    intro hm
    obtain ⟨x, hx, hxe⟩ := List.mem_map.1 hm
    have := (h.2.1 x hx).2.1
    simp only at hxe
    omega

theorem st_bs {w0 w : World} {A : List (Nat × List Int)} {K : Value → World → Prop} (h : St w0 w A) (k : ∀ w', St w0 w' ((w.heap.size, [-1]) :: A) → K (.slice (some ⟨w.heap.size, 0, none⟩) 1 1) w') : RUN Tryz.prog (Instr.buildSlice 105 1 #[(0, .int .i64 (-1))]) w K := by
  refine BS_105_1 fun w' o e z => k w' (h.add e (Nat.le_refl _) o)
theorem st_make {w0 w : World} {A : List (Nat × List Int)} {K : Value → World → Prop} {n : Nat} (hn : n ≤ 2 ^ 31) (h : St w0 w A) (k : ∀ w', St w0 w' ((w.heap.size, List.replicate n 0) :: A) → K (.slice (some ⟨w.heap.size, 0, none⟩) n n) w') : RUN Tryz.prog (Instr.makeSlice 105 (.int .i64 n) (.int .i64 n)) w K := by
  refine MAKE (by kernel_rfl) IN_3 rfl (by omega) (by unfold maxLen; omega) fun w' o e z => k w' (h.add e (Nat.le_refl _) (by rw [List.map_replicate]; exact o))
theorem st_rep {w0 w : World} {A : List (Nat × List Int)} {K : Value → World → Prop} {n g : Nat} {E : List PanicEntry → World → Prop} (hn : n ≤ 2 ^ 31) (h : St w0 w A) (hm : (g, [-1]) ∈ A) (k : ∀ g' w', St w0 w' ((g', List.replicate n (-1)) :: A) → K (.slice (some ⟨g', 0, none⟩) n n) w') :
    CALL Tryz.prog 62 [.slice (some ⟨g, 0, none⟩) 1 1, .int .i64 n] w E K := by
  have ho := (h.2.1 _ hm).2.2
  refine CALL_of (slices_Repeat (v := .slice (some ⟨g, 0, none⟩) 1 1) ⟨_, 1, rfl, Rd.own ho 0 (fun i v hv => by simpa using hv), by simp, by simp⟩ n hn) ?_
  rintro v w' ⟨g', rfl, o, e, hg⟩
  exact k g' w' (h.add e hg (by rw [List.map_replicate]; exact o))

theorem st_leaf {w0 w : World} {A : List (Nat × List Int)} {K : Value → World → Prop} {n f o x : Nat} (hn : n ≤ 2 ^ 31) (h : St w0 w A) (hf : (f, List.replicate n (-1)) ∈ A) (ho : (o, List.replicate n (-1)) ∈ A) (hx : (x, List.replicate n 0) ∈ A) (hne' : (A.map (·.1)).Nodup → f ≠ o ∧ f ≠ x ∧ o ≠ x)
    (k : ∀ b w', IsLinks w' w0.heap.size w'.heap.size b (List.replicate n (-1)) (List.replicate n (-1)) (List.replicate n 0) [] → Ext w0 w' → K (.pointer (some ⟨b, 0, none⟩)) w') :
    PURE Tryz.prog (Instr.build 137 #[(0, .slice (some ⟨f, 0, none⟩) n n), (1, .slice (some ⟨o, 0, none⟩) n n), (2, .slice (some ⟨x, 0, none⟩) n n)]) fun v => RUN Tryz.prog (Instr.box 137 v) w K := by
  have hne := hne' h.2.2
  obtain ⟨a1, a2, a3⟩ := h.2.1 _ hf
  obtain ⟨b1, b2, b3⟩ := h.2.1 _ ho
  obtain ⟨c1, c2, c3⟩ := h.2.1 _ hx
  have hsz := h.1.size
  simp only at a1 a2 b1 b2 c1 c2
  simp only [BD_137_0_1_2]
  refine BOXA fun w' o' e' z' => k _ w' ?_ (h.1.trans e')
  refine ⟨⟨f, o, x, .slice none 0 0, ?_, a3.ext e', b3.ext e', c3.ext e', World.ownsRow_nil _ _ _ _, by omega, by simp [Value.ownBlock], hne.1, hne.2.1, hne.2.2⟩, by simp, by simp, by simp; omega, by simp⟩
  simp only [List.length_replicate]
  exact o'

/-! The nodes by their depth. -/
theorem nodup_le (n : Nat) : ∀ (l : List Int), l.Nodup → (∀ x ∈ l, 0 ≤ x ∧ x < n) → l.length ≤ n := by
  induction n with
  | zero =>
    intro l _ h
    cases l with
    | nil => simp
    | cons x l => have := h x (by simp); omega
  | succ n ih =>
    intro l hn h
    by_cases hm : (n : Int) ∈ l
    · have := ih (l.erase n) (hn.erase _) (fun x hx => by
        have h1 := h x (List.mem_of_mem_erase hx)
        have : x ≠ n := by rintro rfl; exact (hn.not_mem_erase hx).elim
        omega)
      rw [List.length_erase_of_mem hm] at this
      omega
    · have := ih l hn (fun x hx => by
        have h1 := h x hx
        have : x ≠ n := by rintro rfl; exact hm hx
        omega)
      omega

/-- The queue of nodes by depth, of which the first k are done. -/
structure Queue (T : List TN) (Q : List Int) (k : Nat) : Prop where
  le : k ≤ Q.length
  first : Q[0]? = some 0
  inn : ∀ x ∈ Q, 0 ≤ x ∧ x < T.length
  nodup : Q.Nodup
  kids : ∀ y : Int, 0 < y → y < T.length → parentM T y ∈ Q.take k → y ∈ Q
  pars : ∀ y ∈ Q, 0 < y → parentM T y ∈ Q.take k
  rise : Q.Pairwise fun x y => depM T x ≤ depM T y
  near : ∀ x, Q[k]? = some x → ∀ y ∈ Q, depM T y ≤ depM T x + 1

theorem parent_in {T : List TN} (h : TreeOK T) {y : Int} (h0 : 0 < y) (h1 : y < T.length) : 0 ≤ parentM T y ∧ parentM T y < y ∧ depM T y = depM T (parentM T y) + 1 ∧ ∃ c, stepM T (parentM T y) c = y := by
  have hx := nodeM_in (T := T) (n := y) ⟨by omega, h1⟩
  obtain ⟨a1, a2, a3⟩ := nodeM_some hx
  obtain ⟨z, b1, b2, b3, b4⟩ := h.up y.toNat _ a3 (by omega)
  have hp : parentM T y = (T[y.toNat]'(by omega)).par := by simp [parentM, hx]
  rw [hp]
  refine ⟨b1, by omega, ?_, _, (h.step (by omega)).2 ⟨_, h0, hx, rfl, rfl⟩⟩
  rw [depM, path_up h hx h0]
  simp [depM]
theorem parent_step {T : List TN} (h : TreeOK T) {n : Int} {c : UInt8} (hs : 0 ≤ stepM T n c) : parentM T (stepM T n c) = n ∧ 0 < stepM T n c := by
  obtain ⟨y, h0, h1, h2, h3⟩ := (h.step hs).1 rfl
  exact ⟨by simp [parentM, h1, h2], h0⟩

theorem mem_kids {T : List TN} {n : Int} {c : UInt8} : c ∈ kidsM T n ↔ 0 ≤ stepM T n c := by
  unfold kidsM
  rw [List.mem_filter, List.mem_map]
  simp only [decide_eq_true_eq]
  constructor
  · exact fun h => h.2
  · exact fun h => ⟨⟨c.toNat, by simp [c.toNat_lt], by simp⟩, h⟩
theorem kids_nodup (T : List TN) (n : Int) : (kidsM T n).Nodup := by
  unfold kidsM
  refine List.Nodup.sublist List.filter_sublist ?_
  rw [List.nodup_iff_pairwise_ne, List.pairwise_map]
  refine List.Pairwise.imp_of_mem ?_ (List.nodup_iff_pairwise_ne.1 List.nodup_range)
  intro a b ha hb hab he
  apply hab
  have := congrArg UInt8.toNat he
  simp only [UInt8.toNat_ofNat'] at this
  rw [List.mem_range] at ha hb
  omega

theorem Queue.start {T : List TN} (h : TreeOK T) : Queue T [0] 0 := by
  have := h.pos
  refine ⟨by simp, rfl, by simp; omega, by simp, by simp, by simp, by simp, by simp⟩

theorem Queue.grow {T : List TN} (h : TreeOK T) {Q : List Int} {k : Nat} {x : Int} (q : Queue T Q k) (hx : Q[k]? = some x) : Queue T (Q ++ (kidsM T x).map (stepM T x)) (k + 1) := by
  have hk := (List.getElem?_eq_some_iff.1 hx).1
  have hxe := (List.getElem?_eq_some_iff.1 hx).2
  have hxm : x ∈ Q := List.mem_of_getElem? hx
  have htake : (Q ++ (kidsM T x).map (stepM T x)).take (k + 1) = Q.take k ++ [x] := by
    rw [List.take_append_of_le_length (by omega), List.take_add_one, hx]; rfl
  have hnx : x ∉ Q.take k := by
    intro hm
    obtain ⟨j, hj⟩ := List.getElem?_of_mem hm
    rw [List.getElem?_take] at hj
    split at hj
    · have hj' := (List.getElem?_eq_some_iff.1 hj).1
      have := (List.getElem_inj (h₀ := hj') (h₁ := hk) q.nodup).1 (by rw [(List.getElem?_eq_some_iff.1 hj).2, hxe])
      omega
    · cases hj
  have hkid : ∀ y ∈ (kidsM T x).map (stepM T x), 0 < y ∧ y < T.length ∧ parentM T y = x ∧ depM T y = depM T x + 1 ∧ y ∉ Q := by
    intro y hy
    obtain ⟨c, hc, rfl⟩ := List.mem_map.1 hy
    have hs := mem_kids.1 hc
    obtain ⟨p1, p2⟩ := parent_step h hs
    have hlt := (stepM_lo T x c).2.1
    refine ⟨p2, hlt, p1, ?_, fun hm => ?_⟩
    · have := (parent_in h p2 hlt).2.2.1; rw [p1] at this; exact this
    · have := q.pars _ hm p2; rw [p1] at this; exact hnx this
  refine ⟨by simp; omega, ?_, ?_, ?_, ?_, ?_, ?_, ?_⟩
  · rw [List.getElem?_append_left (by omega)]; exact q.first
  · intro y hy
    rcases List.mem_append.1 hy with hy | hy
    · exact q.inn y hy
    · have := hkid y hy; exact ⟨by omega, this.2.1⟩
  · rw [List.nodup_append]
    refine ⟨q.nodup, ?_, ?_⟩
    · rw [List.nodup_iff_pairwise_ne, List.pairwise_map]
      refine List.Pairwise.imp_of_mem ?_ (List.nodup_iff_pairwise_ne.1 (kids_nodup T x))
      intro a b ha hb hab he
      apply hab
      have e1 := path_step h (mem_kids.1 ha)
      have e2 := path_step h (mem_kids.1 hb)
      rw [he, e2] at e1
      simpa using e1.symm
    · intro a ha b hb he
      subst he
      exact (hkid a hb).2.2.2.2 ha
  · intro y h0 h1 hp
    rw [htake] at hp
    rcases List.mem_append.1 hp with hp | hp
    · exact List.mem_append_left _ (q.kids y h0 h1 hp)
    · simp only [List.mem_singleton] at hp
      obtain ⟨_, _, _, c, hc⟩ := parent_in h h0 h1
      rw [hp] at hc
      refine List.mem_append_right _ (List.mem_map.2 ⟨c, mem_kids.2 (by omega), hc⟩)
  · intro y hy h0
    rw [htake]
    rcases List.mem_append.1 hy with hy | hy
    · exact List.mem_append_left _ (q.pars y hy h0)
    · exact List.mem_append_right _ (by rw [(hkid y hy).2.2.1]; simp)
  · rw [List.pairwise_append]
    refine ⟨q.rise, ?_, ?_⟩
    · have : ∀ l : List Int, (∀ y ∈ l, depM T y = depM T x + 1) → l.Pairwise fun x y => depM T x ≤ depM T y := by
        intro l hl
        refine List.Pairwise.imp_of_mem (R := fun _ _ => True) ?_ (List.pairwise_of_forall (fun _ _ => trivial))
        intro a b ha hb _
        rw [hl a ha, hl b hb]
        exact Nat.le_refl _
      exact this _ fun y hy => (hkid y hy).2.2.2.1
    · intro a ha b hb
      rw [(hkid b hb).2.2.2.1]
      exact q.near x hx a ha
  · intro z hz y hy
    have hz' : depM T x ≤ depM T z := by
      by_cases hzk : k + 1 < Q.length
      · rw [List.getElem?_append_left hzk] at hz
        have := List.pairwise_iff_getElem.1 q.rise k (k + 1) hk hzk (by omega)
        rw [hxe, (List.getElem?_eq_some_iff.1 hz).2] at this
        exact this
      · have hm := List.mem_of_getElem? hz
        rcases List.mem_append.1 hm with hm | hm
        · obtain ⟨hlt, hze⟩ := List.getElem?_eq_some_iff.1 hz
          rw [List.getElem?_append_right (by omega)] at hz
          have := List.mem_of_getElem? hz
          rw [(hkid z this).2.2.2.1]; omega
        · rw [(hkid z hm).2.2.2.1]; omega
    rcases List.mem_append.1 hy with hy | hy
    · have := q.near x hx y hy; omega
    · have := (hkid y hy).2.2.2.1; omega

theorem Queue.below {T : List TN} (h : TreeOK T) {Q : List Int} {k : Nat} {x : Int} (q : Queue T Q k) (hx : Q[k]? = some x) : ∀ (d : Nat) (y : Int), 0 ≤ y → y < T.length → depM T y < depM T x → depM T y ≤ d → y ∈ Q.take k := by
  obtain ⟨hk, hxe⟩ := List.getElem?_eq_some_iff.1 hx
  have fin : ∀ y ∈ Q, depM T y < depM T x → y ∈ Q.take k := by
    intro y hy hd
    obtain ⟨j, hj⟩ := List.getElem?_of_mem hy
    obtain ⟨hjl, hje⟩ := List.getElem?_eq_some_iff.1 hj
    by_cases hjk : j < k
    · exact List.mem_of_getElem? (i := j) (by rw [List.getElem?_take, if_pos hjk]; exact hj)
    · by_cases e : j = k
      · subst e; rw [hj] at hx; injection hx with hx; subst hx; omega
      · have := List.pairwise_iff_getElem.1 q.rise k j hk hjl (by omega)
        rw [hxe, hje] at this
        omega
  intro d
  induction d with
  | zero =>
    intro y h0 h1 h2 h3
    by_cases hz : y = 0
    · subst hz; exact fin 0 (List.mem_of_getElem? q.first) h2
    · have := (parent_in h (y := y) (by omega) h1).2.2.1; omega
  | succ d ih =>
    intro y h0 h1 h2 h3
    by_cases hz : y = 0
    · subst hz; exact fin 0 (List.mem_of_getElem? q.first) h2
    · obtain ⟨p1, p2, p3, _⟩ := parent_in h (y := y) (by omega) h1
      exact fin y (q.kids y (by omega) h1 (ih _ p1 (by omega) (by omega) (by omega))) h2

theorem Queue.all {T : List TN} (h : TreeOK T) {Q : List Int} (q : Queue T Q Q.length) : ∀ (d : Nat) (y : Int), 0 ≤ y → y < T.length → depM T y ≤ d → y ∈ Q := by
  intro d
  induction d with
  | zero =>
    intro y h0 h1 h2
    by_cases hz : y = 0
    · subst hz; exact List.mem_of_getElem? q.first
    · have := (parent_in h (y := y) (by omega) h1).2.2.1; omega
  | succ d ih =>
    intro y h0 h1 h2
    by_cases hz : y = 0
    · subst hz; exact List.mem_of_getElem? q.first
    · obtain ⟨p1, p2, p3, _⟩ := parent_in h (y := y) (by omega) h1
      exact q.kids y (by omega) h1 (by rw [List.take_length]; exact ih _ p1 (by omega) (by omega))
end Go.Proofs.YtgjfhmahiiokeaaGreat.Y
