import Derived.Test.YtgjfhmahiiokeaaGreatAc
set_option linter.unusedVariables false
set_option linter.unusedSimpArgs false
set_option linter.unusedVariables false
set_option linter.unusedSimpArgs false
namespace Go.Proofs.YtgjfhmahiiokeaaGreat.Y
open Go Go.Sx

/-! ### The tree of texts: what it holds -/
theorem grow_ok {T : List TN} (h : TreeOK T) {n : Int} (c : UInt8) (hn : 0 ≤ n ∧ n < T.length) : TreeOK (growM T n c).2 ∧ stepM (growM T n c).2 n c = (growM T n c).1 ∧ (∀ m a, 0 ≤ stepM T m a → stepM (growM T n c).2 m a = stepM T m a) ∧
    (∀ m a, 0 ≤ stepM (growM T n c).2 m a → 0 ≤ stepM T m a ∨ (m = n ∧ a = c)) ∧ (∀ (x : Nat) y, T[x]? = some y → (growM T n c).2[x]? = some y) ∧ (∀ (x : Nat) y, (growM T n c).2[x]? = some y → T.length ≤ x → y.word = -1) := by
  unfold growM
  cases hl : lookE (ents 1 T.tail) n c.toNat with
  | some x =>
    simp only
    refine ⟨h, ?_, fun _ _ _ => by trivial, fun _ _ h => .inl h, fun _ _ h => h, fun x y hx hle => ?_⟩
    · unfold stepM; rw [if_pos hn, hl]; rfl
    · have := (List.getElem?_eq_some_iff.1 hx).1; omega
  | none =>
    simp only
    obtain ⟨z, hz⟩ : ∃ z, T[n.toNat]? = some z := ⟨_, List.getElem?_eq_getElem (by omega)⟩
    have hdep : ((nodeM T n).map TN.dep).getD 0 = z.dep := by rw [nodeM, if_pos hn, hz]; rfl
    rw [hdep]
    have old : ∀ (x : Nat) y, T[x]? = some y → (T ++ [(⟨n, z.dep + 1, -1, c⟩ : TN)])[x]? = some y := fun x y hx => by
      rw [List.getElem?_append_left (List.getElem?_eq_some_iff.1 hx).1]; exact hx
    have new : (T ++ [(⟨n, z.dep + 1, -1, c⟩ : TN)])[T.length]? = some ⟨n, z.dep + 1, -1, c⟩ := by
      rw [List.getElem?_append_right (Nat.le_refl _)]; simp
    have cases' : ∀ (x : Nat) y, (T ++ [(⟨n, z.dep + 1, -1, c⟩ : TN)])[x]? = some y → T[x]? = some y ∨ (x = T.length ∧ y = ⟨n, z.dep + 1, -1, c⟩) := fun x y hx => by
      by_cases hlt : x < T.length
      · rw [List.getElem?_append_left hlt] at hx; exact .inl hx
      · rw [List.getElem?_append_right (by omega)] at hx
        have := (List.getElem?_eq_some_iff.1 hx).1
        simp at this
        have e : x = T.length := by omega
        subst e
        simp at hx
        exact .inr ⟨rfl, hx.symm⟩
    have hT : TreeOK (T ++ [(⟨n, z.dep + 1, -1, c⟩ : TN)]) := by
      refine ⟨by simp, ?_, ?_, ?_⟩
      · intro x hx
        rcases cases' 0 x hx with hx | ⟨he, _⟩
        · exact h.root x hx
        · have := h.pos; omega
      · intro i x hx h0
        rcases cases' i x hx with hx | ⟨he, rfl⟩
        · obtain ⟨y, h1, h2, h3, h4⟩ := h.up i x hx h0
          exact ⟨y, h1, h2, old _ _ h3, h4⟩
        · exact ⟨z, hn.1, by simp only; omega, old _ _ hz, rfl⟩
      · intro i j x y hx hy hi hj hp hc
        rcases cases' i x hx with hx | ⟨he, rfl⟩ <;> rcases cases' j y hy with hy | ⟨he', rfl⟩
        · exact h.one i j x y hx hy hi hj hp hc
        · have := (h.look (n := n) (c := c) (x := i)).2 ⟨i, x, rfl, hi, hx, hp, hc⟩
          rw [hl] at this; cases this
        · have := (h.look (n := n) (c := c) (x := j)).2 ⟨j, y, rfl, hj, hy, hp.symm, hc.symm⟩
          rw [hl] at this; cases this
        · omega
    have nodeNew : nodeM (T ++ [(⟨n, z.dep + 1, -1, c⟩ : TN)]) T.length = some ⟨n, z.dep + 1, -1, c⟩ := by
      unfold nodeM
      rw [if_pos (by simp; omega), Int.toNat_natCast, new]
    have nodeOld : ∀ x y, nodeM T x = some y → nodeM (T ++ [(⟨n, z.dep + 1, -1, c⟩ : TN)]) x = some y := fun x y hx => by
      obtain ⟨a1, a2, a3⟩ := nodeM_some hx
      unfold nodeM
      rw [if_pos (by simp; omega), old _ _ a3]
    refine ⟨hT, ?_, ?_, ?_, old, ?_⟩
    · have := h.pos
      exact (hT.step (by omega)).2 ⟨_, by omega, nodeNew, rfl, rfl⟩
    · intro m a hs
      obtain ⟨y, h0, h1, h2, h3⟩ := (h.step hs).1 rfl
      exact (hT.step hs).2 ⟨y, h0, nodeOld _ _ h1, h2, h3⟩
    · intro m a hs
      obtain ⟨y, h0, h1, h2, h3⟩ := (hT.step hs).1 rfl
      obtain ⟨a1, a2, a3⟩ := nodeM_some h1
      rcases cases' _ y a3 with hx | ⟨he, rfl⟩
      · left
        have : nodeM T (stepM (T ++ [(⟨n, z.dep + 1, -1, c⟩ : TN)]) m a) = some y := by
          unfold nodeM
          have := (List.getElem?_eq_some_iff.1 hx).1
          rw [if_pos (by omega), hx]
        rw [(h.step hs).2 ⟨y, h0, this, h2, h3⟩]
        exact hs
      · exact .inr ⟨h2.symm, h3.symm⟩
    · intro x y hx hle
      rcases cases' x y hx with hx | ⟨he, rfl⟩
      · have := (List.getElem?_eq_some_iff.1 hx).1; omega
      · rfl

theorem grow_find {T : List TN} (h : TreeOK T) {n : Int} (c : UInt8) (hn : 0 ≤ n ∧ n < T.length) : (∀ p, 0 ≤ findM T p → findM (growM T n c).2 p = findM T p) ∧ (∀ p, 0 ≤ findM (growM T n c).2 p → 0 ≤ findM T p ∨ p = pathM T n ++ [c]) ∧ (∀ x : Int, 0 ≤ x → x < T.length → pathM (growM T n c).2 x = pathM T x) := by
  obtain ⟨k1, k2, k3, k4, k5, k6⟩ := grow_ok h c hn
  have mono : ∀ (k : Nat) p, p.length = k → 0 ≤ findM T p → findM (growM T n c).2 p = findM T p := by
    intro k
    induction k with
    | zero => intro p hp _; rw [List.length_eq_zero_iff.1 hp]; rfl
    | succ k ih =>
      intro p hp h0
      rcases List.eq_nil_or_concat p with rfl | ⟨q, a, rfl⟩
      · simp at hp
      · rw [List.concat_eq_append] at *
        rw [findM_snoc] at h0 ⊢
        rw [findM_snoc]
        have hq : 0 ≤ findM T q := by
          by_cases hq : 0 ≤ findM T q
          · exact hq
          · rw [stepM_neg (by omega)] at h0; omega
        rw [ih q (by simpa using hp) hq, k3 _ _ h0]
  have back : ∀ (k : Nat) p, p.length = k → 0 ≤ findM (growM T n c).2 p → 0 ≤ findM T p ∨ p = pathM T n ++ [c] := by
    intro k
    induction k with
    | zero => intro p hp _; rw [List.length_eq_zero_iff.1 hp]; left; simp [findM]
    | succ k ih =>
      intro p hp h0
      rcases List.eq_nil_or_concat p with rfl | ⟨q, a, rfl⟩
      · simp at hp
      · rw [List.concat_eq_append] at *
        rw [findM_snoc] at h0 ⊢
        have hq0 : 0 ≤ findM (growM T n c).2 q := by
          by_cases hq : 0 ≤ findM (growM T n c).2 q
          · exact hq
          · rw [stepM_neg (by omega)] at h0; omega
        rcases ih q (by simpa using hp) hq0 with hq | hq
        · rw [mono _ q rfl hq] at h0
          rcases k4 _ _ h0 with hs | ⟨rfl, rfl⟩
          · exact .inl hs
          · right; rw [path_find h _ hq]
        · have hfq : findM (growM T n c).2 q = (growM T n c).1 := by
            rw [hq, findM_snoc, mono _ _ rfl (by rw [find_of h hn.1 hn.2]; exact hn.1), find_of h hn.1 hn.2, k2]
          rw [hfq] at h0
          rcases k4 _ _ h0 with hs | ⟨e1, e2⟩
          · by_cases hin : 0 ≤ findM T q
            · left
              rw [← mono _ q rfl hin, hfq]; exact hs
            · exfalso
              have hnew : (growM T n c).1 = T.length := by
                have hno : lookE (ents 1 T.tail) n c.toNat = none := by
                  cases hl : lookE (ents 1 T.tail) n c.toNat with
                  | none => rfl
                  | some x =>
                    exfalso
                    apply hin
                    rw [hq, findM_snoc, find_of h hn.1 hn.2]
                    unfold stepM
                    rw [if_pos hn, hl]
                    have := lookE_ents hl
                    simp; omega
                simp [growM, hno]
              rw [hnew] at hs
              unfold stepM at hs
              rw [if_neg (by omega)] at hs
              omega
          · exfalso
            have hpath : pathM (growM T n c).2 n = q := by
              have := path_find k1 q hq0
              rw [hfq, e1] at this
              exact this
            have : findM (growM T n c).2 (pathM T n) = n := by rw [mono _ _ rfl (by rw [find_of h hn.1 hn.2]; exact hn.1), find_of h hn.1 hn.2]
            have h2 := path_find k1 (pathM T n) (by rw [this]; exact hn.1)
            rw [this, hpath, hq] at h2
            have := congrArg List.length h2
            simp at this
  refine ⟨fun p => mono _ p rfl, fun p => back _ p rfl, fun x h0 h1 => ?_⟩
  have hf := find_of h h0 h1
  have hm := mono _ (pathM T x) rfl (by rw [hf]; exact h0)
  rw [hf] at hm
  have := path_find k1 (pathM T x) (by rw [hm]; exact h0)
  rw [hm] at this
  exact this

theorem ins_ok (b : List UInt8) : ∀ {T : List TN} (h : TreeOK T) {n : Int} (hn : 0 ≤ n ∧ n < T.length), TreeOK (insM T n b).2 ∧ (0 ≤ (insM T n b).1 ∧ (insM T n b).1 < (insM T n b).2.length) ∧ pathM (insM T n b).2 (insM T n b).1 = pathM T n ++ b ∧ (∀ p, 0 ≤ findM T p → findM (insM T n b).2 p = findM T p) ∧
    (∀ p, 0 ≤ findM (insM T n b).2 p → 0 ≤ findM T p ∨ p <+: pathM T n ++ b) ∧ (∀ (x : Nat) y, T[x]? = some y → (insM T n b).2[x]? = some y) ∧ (∀ (x : Nat) y, (insM T n b).2[x]? = some y → T.length ≤ x → y.word = -1) ∧ T.length ≤ (insM T n b).2.length := by
  induction b with
  | nil =>
    intro T h n hn
    refine ⟨h, hn, by simp [insM], fun _ _ => rfl, fun _ h => .inl h, fun _ _ h => h, fun x y hx hle => ?_, Nat.le_refl _⟩
    have := (List.getElem?_eq_some_iff.1 (show T[x]? = some y from hx)).1
    omega
  | cons c b ih =>
    intro T h n hn
    obtain ⟨k1, k2, k3, k4, k5, k6⟩ := grow_ok h c hn
    obtain ⟨f1, f2, f3⟩ := grow_find h c hn
    have hin := growM_in (T := T) (n := n) (c := c) h.pos
    obtain ⟨i1, i2, i3, i4, i5, i6, i7, i8⟩ := ih k1 (n := (growM T n c).1) ⟨hin.1, hin.2.1⟩
    have hp : pathM (growM T n c).2 (growM T n c).1 = pathM T n ++ [c] := by
      rw [← k2, path_step k1 (by rw [k2]; exact hin.1), f3 n hn.1 hn.2]
    have hp' : pathM T n ++ [c] ++ b = pathM T n ++ c :: b := by simp
    simp only [insM]
    rw [hp, hp'] at i3 i5
    refine ⟨i1, i2, i3, fun p hp => ?_, fun p hp0 => ?_, fun x y hx => i6 x y (k5 x y hx), fun x y hx hle => ?_, by omega⟩
    · rw [i4 p (by rw [f1 p hp]; exact hp), f1 p hp]
    · rcases i5 p hp0 with hq | hq
      · rcases f2 p hq with hq | rfl
        · exact .inl hq
        · right; exact ⟨b, hp'⟩
      · exact .inr hq
    · by_cases hlt : x < (growM T n c).2.length
      · obtain ⟨y', hy'⟩ : ∃ y', (growM T n c).2[x]? = some y' := ⟨_, List.getElem?_eq_getElem hlt⟩
        have := i6 x y' hy'
        rw [hx] at this
        injection this with this
        subst this
        exact k6 x y hy' hle
      · exact i7 x y hx (by omega)

structure TrieFor (T : List TN) (ls : List (List UInt8)) : Prop where
  ok : TreeOK T
  node : ∀ p, 0 ≤ findM T p → p = [] ∨ ∃ t ∈ ls, p <+: t
  text : ∀ t ∈ ls, 0 ≤ findM T t
  word : ∀ x : Int, 0 ≤ x → x < T.length → (0 ≤ wordM T x ↔ pathM T x ∈ ls)

theorem mark_same (T : List TN) (n : Int) (i : Nat) : (markM T n i).length = T.length ∧ (markM T n i).map (fun x => (x.par, x.c)) = T.map (fun x => (x.par, x.c)) ∧ (∀ (x : Nat) y, T[x]? = some y → ∃ y', (markM T n i)[x]? = some y' ∧ y'.par = y.par ∧ y'.dep = y.dep ∧ y'.c = y.c ∧ (x ≠ n.toNat → y' = y) ∧ (x = n.toNat → 0 ≤ y'.word)) := by
  unfold markM
  split
  · rename_i z hz
    split
    · refine ⟨by simp, set_word hz i, fun x y hx => ?_⟩
      rw [List.getElem?_set]
      split
      · rename_i e
        subst e
        rw [hz] at hx
        injection hx with hx
        subst hx
        have := (List.getElem?_eq_some_iff.1 hz).1
        rw [if_pos this]
        exact ⟨_, rfl, rfl, rfl, rfl, fun h => (h rfl).elim, fun _ => by simp only; omega⟩
      · rename_i e
        exact ⟨y, hx, rfl, rfl, rfl, fun _ => rfl, fun h => (e h.symm).elim⟩
    · rename_i hw
      refine ⟨rfl, rfl, fun x y hx => ⟨y, hx, rfl, rfl, rfl, fun _ => rfl, fun e => ?_⟩⟩
      subst e
      rw [hz] at hx
      injection hx with hx
      subst hx
      omega
  · rename_i hz
    refine ⟨rfl, rfl, fun x y hx => ⟨y, hx, rfl, rfl, rfl, fun _ => rfl, fun e => ?_⟩⟩
    subst e
    rw [hz] at hx
    cases hx

theorem step_same {T T' : List TN} (hl : T'.length = T.length) (hm : T'.map (fun x => (x.par, x.c)) = T.map (fun x => (x.par, x.c))) (n : Int) (c : UInt8) : stepM T' n c = stepM T n c := by
  unfold stepM
  rw [hl, ents_congr (l' := T.tail) (by rw [List.map_tail, List.map_tail, hm]) 1]
theorem find_same {T T' : List TN} (hl : T'.length = T.length) (hm : T'.map (fun x => (x.par, x.c)) = T.map (fun x => (x.par, x.c))) (p : List UInt8) : findM T' p = findM T p := by
  unfold findM
  have : stepM T' = stepM T := by funext n c; exact step_same hl hm n c
  rw [this]

theorem mark_ok {T : List TN} (h : TreeOK T) (n : Int) (i : Nat) : TreeOK (markM T n i) := by
  obtain ⟨m1, m2, m3⟩ := mark_same T n i
  have inv : ∀ (x : Nat) y', (markM T n i)[x]? = some y' → ∃ y, T[x]? = some y ∧ y'.par = y.par ∧ y'.dep = y.dep ∧ y'.c = y.c := by
    intro x y' hx
    have hlt := (List.getElem?_eq_some_iff.1 hx).1
    rw [m1] at hlt
    obtain ⟨y'', h1, h2, h3, h4, _⟩ := m3 x _ (List.getElem?_eq_getElem hlt)
    rw [hx] at h1
    injection h1 with h1
    subst h1
    exact ⟨_, List.getElem?_eq_getElem hlt, h2, h3, h4⟩
  refine ⟨by rw [m1]; exact h.pos, ?_, ?_, ?_⟩
  · intro x hx
    obtain ⟨y, hy, h1, h2, h3⟩ := inv 0 x hx
    rw [h1, h2]
    exact h.root y hy
  · intro j x hx h0
    obtain ⟨y, hy, h1, h2, h3⟩ := inv j x hx
    obtain ⟨z, k1, k2, k3, k4⟩ := h.up j y hy h0
    obtain ⟨z', q1, q2, q3, q4, _⟩ := m3 _ z k3
    rw [h1, h2]
    exact ⟨z', k1, k2, q1, by omega⟩
  · intro j k x y hx hy hj hk hp hc
    obtain ⟨x', hx', h1, h2, h3⟩ := inv j x hx
    obtain ⟨y', hy', g1, g2, g3⟩ := inv k y hy
    exact h.one j k x' y' hx' hy' hj hk (by rw [← h1, ← g1, hp]) (by rw [← h3, ← g3, hc])

theorem path_same {T T' : List TN} (h : TreeOK T) (h' : TreeOK T') (hl : T'.length = T.length) (hm : T'.map (fun x => (x.par, x.c)) = T.map (fun x => (x.par, x.c))) {x : Int} (h0 : 0 ≤ x) (h1 : x < T.length) : pathM T' x = pathM T x := by
  have hf := find_of h h0 h1
  have := path_find h' (pathM T x) (by rw [find_same hl hm, hf]; exact h0)
  rw [find_same hl hm, hf] at this
  exact this

theorem wordM_get {T : List TN} {x : Int} (h0 : 0 ≤ x) (h1 : x < T.length) {y : TN} (hy : T[x.toNat]? = some y) : wordM T x = y.word := by
  unfold wordM nodeM
  rw [if_pos ⟨h0, h1⟩, hy]; rfl

theorem build_ok (ls : List (List UInt8)) : ∀ (i : Nat) {T : List TN} {done : List (List UInt8)}, TrieFor T done → TrieFor (buildM i T ls) (done ++ ls) := by
  induction ls with
  | nil => intro i T done h; simpa [buildM] using h
  | cons b r ih =>
    intro i T done h
    simp only [buildM]
    have e : done ++ b :: r = (done ++ [b]) ++ r := by simp
    rw [e]
    apply ih
    have hp := h.ok.pos
    obtain ⟨k1, ⟨k2, k2'⟩, k3, k4, k5, k6, k7, k8⟩ := ins_ok b h.ok (n := 0) ⟨by omega, by omega⟩
    rw [path_root h.ok, List.nil_append] at k3 k5
    obtain ⟨m1, m2, m3⟩ := mark_same (insM T 0 b).2 (insM T 0 b).1 i
    have k1' := mark_ok k1 (insM T 0 b).1 i
    generalize hT1 : (insM T 0 b).2 = T1 at *
    generalize hn1 : (insM T 0 b).1 = n1 at *
    have fb : findM T1 b = n1 := by rw [← k3]; exact find_of k1 k2 k2'
    refine ⟨k1', fun p hp0 => ?_, fun t ht => ?_, fun x h0 h1 => ?_⟩
    · rw [find_same m1 m2] at hp0
      rcases k5 p hp0 with hq | hq
      · rcases h.node p hq with rfl | ⟨t, h1, h2⟩
        · exact .inl rfl
        · exact .inr ⟨t, List.mem_append_left _ h1, h2⟩
      · exact .inr ⟨b, by simp, hq⟩
    · rw [find_same m1 m2]
      rcases List.mem_append.1 ht with ht | ht
      · rw [k4 t (h.text t ht)]; exact h.text t ht
      · simp only [List.mem_singleton] at ht
        subst ht
        rw [fb]; exact k2
    · rw [m1] at h1
      rw [path_same k1 k1' m1 m2 h0 h1]
      obtain ⟨y, hy⟩ : ∃ y, T1[x.toNat]? = some y := ⟨_, List.getElem?_eq_getElem (by omega)⟩
      obtain ⟨y', q1, q2, q3, q4, q5, q6⟩ := m3 _ y hy
      rw [wordM_get h0 (by rw [m1]; exact h1) q1]
      by_cases hx : x.toNat = n1.toNat
      · have hxe : x = n1 := by omega
        refine ⟨fun _ => ?_, fun _ => q6 hx⟩
        rw [hxe, k3]; simp
      · rw [q5 hx]
        have hne : pathM T1 x ≠ b := by
          intro he
          rw [← k3] at he
          have := path_inj k1 h0 h1 k2 k2' he
          omega
        by_cases hlt : x < T.length
        · obtain ⟨z, hz⟩ : ∃ z, T[x.toNat]? = some z := ⟨_, List.getElem?_eq_getElem (by omega)⟩
          have := k6 _ z hz
          rw [hy] at this
          injection this with this
          subst this
          have hpx : pathM T1 x = pathM T x := by
            have hf := find_of h.ok h0 hlt
            have := path_find k1 (pathM T x) (by rw [k4 _ (by rw [hf]; exact h0), hf]; exact h0)
            rw [k4 _ (by rw [hf]; exact h0), hf] at this
            exact this
          have hw := h.word x h0 hlt
          rw [wordM_get h0 hlt hz] at hw
          rw [hw, hpx, List.mem_append]
          constructor
          · exact fun h => .inl h
          · rintro (h | h)
            · exact h
            · simp only [List.mem_singleton] at h
              rw [hpx] at hne
              exact (hne h).elim
        · have hw := k7 x.toNat y hy (by omega)
          rw [hw]
          constructor
          · intro h; omega
          · intro hm
            exfalso
            rcases List.mem_append.1 hm with hm | hm
            · have hf := h.text _ hm
              have := k4 _ hf
              rw [find_of k1 h0 h1] at this
              have := (findM_lo hp (pathM T1 x)).2
              omega
            · simp only [List.mem_singleton] at hm
              exact hne hm

theorem trie_for (ls : List (List UInt8)) : TrieFor (trieM ls) ls := by
  have := build_ok ls 0 (T := [⟨-1, 0, -1, 0⟩]) (done := []) ⟨⟨by simp, by simp, ?_, ?_⟩, ?_, by simp, ?_⟩
  · simpa [trieM] using this
  · intro i x hx h0
    have := (List.getElem?_eq_some_iff.1 hx).1
    simp at this; omega
  · intro i j x y hx hy h0 h1
    have := (List.getElem?_eq_some_iff.1 hx).1
    simp at this; omega
  · intro p hp
    left
    rcases List.eq_nil_or_concat p with rfl | ⟨q, c, rfl⟩
    · rfl
    · rw [List.concat_eq_append, findM_snoc] at hp
      have := stepM_lo [(⟨-1, 0, -1, 0⟩ : TN)] (findM [(⟨-1, 0, -1, 0⟩ : TN)] q) c
      simp at this
      omega
  · intro x h0 h1
    have : x = 0 := by simp at h1; omega
    subst this
    simp [wordM, nodeM]

theorem find_prefix {T : List TN} {p : List UInt8} : ∀ {q : List UInt8}, 0 ≤ findM T (p ++ q) → 0 ≤ findM T p := by
  intro q
  induction hk : q.length generalizing q with
  | zero => rw [List.length_eq_zero_iff.1 hk]; simp
  | succ k ih =>
    intro h
    rcases List.eq_nil_or_concat q with rfl | ⟨r, a, rfl⟩
    · simp at hk
    · rw [List.concat_eq_append] at *
      rw [← List.append_assoc, findM_snoc] at h
      refine ih (q := r) (by simpa using hk) ?_
      by_cases hq : 0 ≤ findM T (p ++ r)
      · exact hq
      · rw [stepM_neg (by omega)] at h; omega
/-- The nodes are the beginnings of texts. -/
theorem TrieFor.find {T : List TN} {ls : List (List UInt8)} (h : TrieFor T ls) (p : List UInt8) : 0 ≤ findM T p ↔ p = [] ∨ ∃ t ∈ ls, p <+: t := by
  refine ⟨h.node p, ?_⟩
  rintro (rfl | ⟨t, h1, q, rfl⟩)
  · simp [findM]
  · exact find_prefix (h.text _ h1)
theorem TrieFor.byte {T : List TN} {ls : List (List UInt8)} (h : TrieFor T ls) {n : Int} {c : UInt8} (hs : 0 ≤ stepM T n c) : ∃ t ∈ ls, c ∈ t := by
  have hlt := (stepM_lo T n c).2.1
  have hp := path_step h.ok hs
  have hf := find_of h.ok hs hlt
  rcases h.node (pathM T (stepM T n c)) (by rw [hf]; exact hs) with he | ⟨t, h1, q, h2⟩
  · rw [hp] at he; simp at he
  · exact ⟨t, h1, by rw [← h2, hp]; simp⟩
end Go.Proofs.YtgjfhmahiiokeaaGreat.Y
