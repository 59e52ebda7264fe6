import Derived.Test.YtgjfhmahiiokeaaGreatTrieC
set_option linter.unusedVariables false
set_option linter.unusedSimpArgs false
set_option linter.unusedVariables false
set_option linter.unusedSimpArgs false
namespace Go.Proofs.YtgjfhmahiiokeaaGreat.Y
open Go Go.Sx

/-! ### Trees, with no program in sight -/
theorem lookE_get {l : List TN} : ∀ {k : Nat} {n c x : Int}, lookE (ents k l) n c = some x → ∃ i y, l[i]? = some y ∧ x = ((k + i : Nat) : Int) ∧ y.par = n ∧ (y.c.toNat : Int) = c := by
  induction l with
  | nil => intro k n c x h; cases h
  | cons y l ih =>
    intro k n c x h
    simp only [ents, lookE] at h
    split at h
    · rename_i hh
      injection h with h
      exact ⟨0, y, rfl, by omega, hh.1.symm, hh.2.symm⟩
    · obtain ⟨i, z, h1, h2, h3⟩ := ih h
      exact ⟨i + 1, z, by simpa using h1, by omega, h3⟩
theorem lookE_none {l : List TN} : ∀ {k : Nat} {n c : Int}, lookE (ents k l) n c = none → ∀ y ∈ l, ¬ (y.par = n ∧ (y.c.toNat : Int) = c) := by
  induction l with
  | nil => intro k n c h y hy; cases hy
  | cons z l ih =>
    intro k n c h y hy
    simp only [ents, lookE] at h
    split at h
    · cases h
    · rename_i hn
      rcases List.mem_cons.1 hy with rfl | hy
      · exact fun hh => hn ⟨hh.1.symm, hh.2.symm⟩
      · exact ih h y hy

structure TreeOK (T : List TN) : Prop where
  pos : 0 < T.length
  root : ∀ x, T[0]? = some x → x.par = -1 ∧ x.dep = 0
  up : ∀ (i : Nat) x, T[i]? = some x → 0 < i → ∃ y, 0 ≤ x.par ∧ x.par < i ∧ T[x.par.toNat]? = some y ∧ x.dep = y.dep + 1
  one : ∀ (i j : Nat) x y, T[i]? = some x → T[j]? = some y → 0 < i → 0 < j → x.par = y.par → x.c = y.c → i = j

theorem TreeOK.wf {T : List TN} (h : TreeOK T) : ∀ i (hi : i < T.length), -1 ≤ T[i].par ∧ T[i].par < i := by
  intro i hi
  by_cases h0 : i = 0
  · subst h0
    have := h.root _ (List.getElem?_eq_getElem hi)
    omega
  · obtain ⟨_, h1, h2, _⟩ := h.up i _ (List.getElem?_eq_getElem hi) (by omega)
    omega

theorem tail_get {T : List TN} (i : Nat) : T.tail[i]? = T[i + 1]? := by
  cases T <;> simp

theorem TreeOK.look {T : List TN} (h : TreeOK T) {n : Int} {c : UInt8} {x : Int} : lookE (ents 1 T.tail) n c.toNat = some x ↔ ∃ (i : Nat) (y : TN), x = i ∧ 0 < i ∧ T[i]? = some y ∧ y.par = n ∧ y.c = c := by
  constructor
  · intro hl
    obtain ⟨i, y, h1, h2, h3, h4⟩ := lookE_get hl
    rw [tail_get] at h1
    refine ⟨i + 1, y, by omega, by omega, h1, h3, UInt8.toNat_inj.1 (by omega)⟩
  · rintro ⟨i, y, rfl, h0, h1, h2, h3⟩
    cases hl : lookE (ents 1 T.tail) n c.toNat with
    | none =>
      have := lookE_none hl y (List.mem_of_getElem? (i := i - 1) (by rw [tail_get, show i - 1 + 1 = i by omega]; exact h1))
      exact (this ⟨h2, by rw [h3]⟩).elim
    | some z =>
      obtain ⟨j, u, k1, k2, k3, k4⟩ := lookE_get hl
      rw [tail_get] at k1
      have := h.one i (j + 1) y u h1 k1 h0 (by omega) (by rw [h2, k3]) (by rw [h3]; exact (UInt8.toNat_inj.1 (by omega)).symm)
      rw [k2]
      congr 1
      omega

/-- Where a byte leads: to the one child with this byte. -/
theorem TreeOK.step {T : List TN} (h : TreeOK T) {n : Int} {c : UInt8} {x : Int} (hx : 0 ≤ x) : stepM T n c = x ↔ ∃ y, 0 < x ∧ nodeM T x = some y ∧ y.par = n ∧ y.c = c := by
  unfold stepM
  constructor
  · intro hs
    split at hs
    · cases hl : lookE (ents 1 T.tail) n c.toNat with
      | none => rw [hl] at hs; simp at hs; omega
      | some z =>
        rw [hl] at hs
        simp at hs
        subst hs
        obtain ⟨i, y, rfl, h0, h1, h2, h3⟩ := h.look.1 hl
        have hlt := (List.getElem?_eq_some_iff.1 h1).1
        refine ⟨y, by omega, ?_, h2, h3⟩
        rw [nodeM_in (by omega)]
        simpa [List.getElem?_eq_getElem hlt] using h1
    · omega
  · rintro ⟨y, h0, h1, h2, h3⟩
    obtain ⟨a1, a2, a3⟩ := nodeM_some h1
    obtain ⟨_, b1, b2, b3, _⟩ := h.up x.toNat y a3 (by omega)
    have := h.look (x := x).2 ⟨x.toNat, y, by omega, by omega, a3, h2, h3⟩
    rw [if_pos (by omega), this]
    rfl

theorem stepM_lo (T : List TN) (n : Int) (c : UInt8) : -1 ≤ stepM T n c ∧ stepM T n c < T.length ∧ (stepM T n c = 0 → False) := by
  unfold stepM
  split
  · cases hl : lookE (ents 1 T.tail) n c.toNat with
    | none => simp; omega
    | some z =>
      have := lookE_ents hl
      rw [List.length_tail] at this
      simp
      omega
  · omega
theorem stepM_neg {T : List TN} {n : Int} {c : UInt8} (h : n < 0) : stepM T n c = -1 := by
  unfold stepM
  rw [if_neg (by omega)]

theorem path_root {T : List TN} (h : TreeOK T) : pathM T 0 = [] := by
  unfold pathM
  rw [up_stop]
  · rfl
  · intro x hx
    have := h.root x (nodeM_some hx).2.2
    omega
theorem path_up {T : List TN} (h : TreeOK T) {x : Int} {y : TN} (hx : nodeM T x = some y) (h0 : 0 < x) : pathM T x = pathM T y.par ++ [y.c] := by
  obtain ⟨a1, a2, a3⟩ := nodeM_some hx
  obtain ⟨_, b1, b2, _⟩ := h.up x.toNat y a3 (by omega)
  unfold pathM
  rw [up_step h.wf hx b1, List.reverse_cons]
theorem path_step {T : List TN} (h : TreeOK T) {n : Int} {c : UInt8} (hs : 0 ≤ stepM T n c) : pathM T (stepM T n c) = pathM T n ++ [c] := by
  obtain ⟨y, h0, h1, h2, h3⟩ := (h.step hs).1 rfl
  rw [path_up h h1 h0, h2, h3]

/-- The node of a beginning; -1: there is none. -/
def findM (T : List TN) (p : List UInt8) : Int := p.foldl (stepM T) 0
theorem findM_snoc (T : List TN) (p : List UInt8) (c : UInt8) : findM T (p ++ [c]) = stepM T (findM T p) c := by simp [findM]
theorem findM_lo {T : List TN} (hp : 0 < T.length) (p : List UInt8) : -1 ≤ findM T p ∧ findM T p < T.length := by
  rcases List.eq_nil_or_concat p with rfl | ⟨q, c, rfl⟩
  · simp [findM]; omega
  · rw [List.concat_eq_append, findM_snoc]
    have := stepM_lo T (findM T q) c
    omega
theorem path_find {T : List TN} (h : TreeOK T) : ∀ (p : List UInt8), 0 ≤ findM T p → pathM T (findM T p) = p := by
  intro p
  induction hn : p.length generalizing p with
  | zero =>
    intro _
    rw [List.length_eq_zero_iff.1 hn]
    exact path_root h
  | succ k ih =>
    intro hp
    rcases List.eq_nil_or_concat p with rfl | ⟨q, c, rfl⟩
    · simp at hn
    · rw [List.concat_eq_append] at *
      rw [findM_snoc] at hp ⊢
      rw [path_step h hp, ih q (by simpa using hn)]
      by_cases hq : 0 ≤ findM T q
      · exact hq
      · rw [stepM_neg (by omega)] at hp; omega
theorem find_path {T : List TN} (h : TreeOK T) : ∀ (k : Nat) (x : Int), 0 ≤ x → x < T.length → x ≤ k → findM T (pathM T x) = x := by
  intro k
  induction k with
  | zero =>
    intro x h0 h1 h2
    obtain rfl : x = 0 := by omega
    rw [path_root h]; rfl
  | succ k ih =>
    intro x h0 h1 h2
    by_cases hz : x = 0
    · subst hz; rw [path_root h]; rfl
    · have hx := nodeM_in (T := T) ⟨h0, h1⟩
      obtain ⟨a1, a2, a3⟩ := nodeM_some hx
      obtain ⟨_, b1, b2, _⟩ := h.up x.toNat _ a3 (by omega)
      rw [path_up h hx (by omega), findM_snoc, ih _ b1 (by omega) (by omega)]
      exact (h.step h0).2 ⟨_, by omega, hx, rfl, rfl⟩
theorem find_of {T : List TN} (h : TreeOK T) {x : Int} (h0 : 0 ≤ x) (h1 : x < T.length) : findM T (pathM T x) = x := find_path h x.toNat x h0 h1 (by omega)
theorem path_inj {T : List TN} (h : TreeOK T) {x y : Int} (h0 : 0 ≤ x) (h1 : x < T.length) (h2 : 0 ≤ y) (h3 : y < T.length) (he : pathM T x = pathM T y) : x = y := by
  rw [← find_of h h0 h1, he, find_of h h2 h3]

def depM (T : List TN) (x : Int) : Nat := (pathM T x).length
theorem depM_node {T : List TN} (h : TreeOK T) : ∀ (k : Nat) (x : Int) y, nodeM T x = some y → x ≤ k → depM T x = y.dep := by
  intro k
  induction k with
  | zero =>
    intro x y hx hk
    obtain ⟨a1, a2, a3⟩ := nodeM_some hx
    obtain rfl : x = 0 := by omega
    rw [depM, path_root h, (h.root y a3).2]; rfl
  | succ k ih =>
    intro x y hx hk
    obtain ⟨a1, a2, a3⟩ := nodeM_some hx
    by_cases hz : x = 0
    · subst hz; rw [depM, path_root h, (h.root y a3).2]; rfl
    · obtain ⟨z, b1, b2, b3, b4⟩ := h.up x.toNat _ a3 (by omega)
      have hz' : nodeM T y.par = some z := by rw [nodeM, if_pos (by omega), b3]
      have := ih y.par z hz' (by omega)
      rw [depM, path_up h hx (by omega), List.length_append, b4]
      rw [depM] at this
      simp [this]

/-! ### The longest end that is a node -/
def lsn (T : List TN) : List UInt8 → Int
  | [] => 0
  | c :: r => if 0 ≤ findM T (c :: r) then findM T (c :: r) else lsn T r

theorem lsn_in {T : List TN} (hp : 0 < T.length) (p : List UInt8) : 0 ≤ lsn T p ∧ lsn T p < T.length := by
  induction p with
  | nil => simp [lsn]; omega
  | cons c r ih =>
    simp only [lsn]
    split
    · exact ⟨by assumption, (findM_lo hp _).2⟩
    · exact ih
theorem lsn_suffix {T : List TN} (h : TreeOK T) (p : List UInt8) : pathM T (lsn T p) <:+ p := by
  induction p with
  | nil => simp [lsn, path_root h]
  | cons c r ih =>
    simp only [lsn]
    split
    · rename_i hh
      rw [path_find h _ hh]
      exact List.suffix_refl _
    · exact ih.trans (List.suffix_cons c r)
theorem lsn_node {T : List TN} (h : TreeOK T) {x : Int} (h0 : 0 ≤ x) (h1 : x < T.length) : lsn T (pathM T x) = x := by
  have hf := find_of h h0 h1
  cases hp : pathM T x with
  | nil => rw [hp] at hf; simp [findM] at hf; simp [lsn, hf]
  | cons c r =>
    rw [hp] at hf
    simp only [lsn, hf, if_pos h0]

/-- One byte more. -/
theorem lsn_snoc {T : List TN} (h : TreeOK T) (p : List UInt8) (c : UInt8) : lsn T (p ++ [c]) = if 0 ≤ stepM T (lsn T p) c then stepM T (lsn T p) c else if lsn T p = 0 then 0 else lsn T ((pathM T (lsn T p)).tail ++ [c]) := by
  induction p with
  | nil =>
    simp only [List.nil_append, lsn]
    have : findM T [c] = stepM T 0 c := by simp [findM]
    rw [this]
    simp
  | cons a r ih =>
    have e : findM T (a :: r ++ [c]) = stepM T (findM T (a :: r)) c := findM_snoc T (a :: r) c
    by_cases hf : 0 ≤ findM T (a :: r)
    · have hl : lsn T (a :: r) = findM T (a :: r) := by simp only [lsn, if_pos hf]
      have hne : findM T (a :: r) ≠ 0 := by
        intro h0
        have := path_find h _ hf
        rw [h0, path_root h] at this
        cases this
      rw [hl]
      show lsn T (a :: (r ++ [c])) = _
      rw [lsn]
      rw [show a :: (r ++ [c]) = a :: r ++ [c] from rfl, e]
      split
      · rfl
      · first | rw [if_neg hne, path_find h _ hf]; rfl | (rw [path_find h _ hf]; rfl)
    · have hl : lsn T (a :: r) = lsn T r := by simp only [lsn, if_neg hf]
      rw [hl, ← ih]
      show lsn T (a :: (r ++ [c])) = _
      rw [lsn, show a :: (r ++ [c]) = a :: r ++ [c] from rfl, e, stepM_neg (by omega), if_neg (by omega)]

/-- What was read before counts by its longest end alone. -/
theorem lsn_path {T : List TN} (h : TreeOK T) (p : List UInt8) (c : UInt8) : lsn T (pathM T (lsn T p) ++ [c]) = lsn T (p ++ [c]) := by
  have hin := lsn_in h.pos p
  rw [lsn_snoc h p, lsn_snoc h (pathM T (lsn T p)), lsn_node h hin.1 hin.2]

/-! ### The texts in which a node's path ends, the longest first -/
def ownM (T : List TN) (x : Int) : Int := if 0 < x ∧ 0 ≤ wordM T x then depM T x else 0
def endsL (T : List TN) : List UInt8 → List Int
  | [] => []
  | c :: r => if 0 < ownM T (findM T (c :: r)) then ownM T (findM T (c :: r)) :: endsL T r else endsL T r

theorem ownM_neg {T : List TN} {x : Int} (h : x ≤ 0) : ownM T x = 0 := by
  unfold ownM; rw [if_neg (by omega)]
theorem endsL_lsn {T : List TN} (h : TreeOK T) (p : List UInt8) : endsL T (pathM T (lsn T p)) = endsL T p := by
  induction p with
  | nil => simp [lsn, path_root h]
  | cons c r ih =>
    simp only [lsn]
    split
    · rename_i hf; rw [path_find h _ hf]
    · rename_i hf
      rw [ih, endsL, ownM_neg (by omega), if_neg (by omega)]

/-- Where a node falls to; -1: the root, which falls nowhere. -/
def failM (T : List TN) (x : Int) : Int := if x = 0 then -1 else lsn T (pathM T x).tail

theorem path_ne {T : List TN} (h : TreeOK T) {x : Int} (h0 : 0 < x) (h1 : x < T.length) : pathM T x ≠ [] := by
  intro he
  have := find_of h (x := x) (by omega) h1
  rw [he] at this
  simp [findM] at this
  omega
theorem failM_dep {T : List TN} (h : TreeOK T) {x : Int} (h0 : 0 < x) (h1 : x < T.length) : depM T (failM T x) < depM T x := by
  unfold failM depM
  rw [if_neg (by omega)]
  have := (lsn_suffix h (pathM T x).tail).length_le
  have hne := path_ne h h0 h1
  cases hp : pathM T x with
  | nil => exact (hne hp).elim
  | cons c r => rw [hp] at this; simp at this ⊢; omega
theorem failM_in {T : List TN} (h : TreeOK T) (x : Int) : -1 ≤ failM T x ∧ failM T x < T.length := by
  unfold failM
  split
  · omega
  · have := lsn_in h.pos (pathM T x).tail; omega

/-- Ends of a node: its own, then those of where it falls to. -/
theorem endsL_step {T : List TN} (h : TreeOK T) {x : Int} (h0 : 0 < x) (h1 : x < T.length) : endsL T (pathM T x) = if 0 < ownM T x then ownM T x :: endsL T (pathM T (failM T x)) else endsL T (pathM T (failM T x)) := by
  have hf := find_of h (x := x) (by omega) h1
  have hne := path_ne h h0 h1
  have hx : failM T x = lsn T (pathM T x).tail := by unfold failM; rw [if_neg (by omega)]
  rw [hx, endsL_lsn h]
  cases hp : pathM T x with
  | nil => exact (hne hp).elim
  | cons c r =>
    rw [hp] at hf
    rw [endsL, hf]
    rfl

/-- The next node, by falls, that a text ends at. -/
def outF (T : List TN) : Nat → Int → Int
  | 0, _ => -1
  | f + 1, x => if x ≤ 0 then -1 else if ownM T (failM T x) = 0 then outF T f (failM T x) else failM T x
def outM (T : List TN) (x : Int) : Int := outF T (depM T x + 1) x

theorem outF_fuel {T : List TN} (h : TreeOK T) : ∀ (f g : Nat) (x : Int), x < T.length → depM T x < f → depM T x < g → outF T f x = outF T g x := by
  intro f
  induction f with
  | zero => intro g x _ h _; omega
  | succ f ih =>
    intro g x hx hf hg
    cases g with
    | zero => omega
    | succ g =>
      simp only [outF]
      by_cases h0 : x ≤ 0
      · rw [if_pos h0, if_pos h0]
      · rw [if_neg h0, if_neg h0]
        have := failM_dep h (x := x) (by omega) hx
        rw [ih g (failM T x) (failM_in h x).2 (by omega) (by omega)]
theorem outM_step {T : List TN} (h : TreeOK T) {x : Int} (h0 : 0 < x) (h1 : x < T.length) : outM T x = if ownM T (failM T x) = 0 then outM T (failM T x) else failM T x := by
  have := failM_dep h h0 h1
  unfold outM
  rw [outF, if_neg (by omega), outF_fuel h (depM T x) (depM T (failM T x) + 1) _ (failM_in h x).2 (by omega) (by omega)]
theorem outM_root (T : List TN) {x : Int} (h : x ≤ 0) : outM T x = -1 := by
  unfold outM
  rw [outF, if_pos h]
theorem ownM_lo (T : List TN) (x : Int) : 0 ≤ ownM T x := by unfold ownM; split <;> omega

theorem outM_all {T : List TN} (h : TreeOK T) : ∀ (k : Nat) (x : Int), 0 ≤ x → x < T.length → depM T x < k → -1 ≤ outM T x ∧ outM T x < T.length ∧ outM T x ≠ 0 ∧ (0 ≤ outM T x → depM T (outM T x) < depM T x ∧ 0 < ownM T (outM T x)) ∧
    endsL T (pathM T x) = (if 0 < ownM T x then [ownM T x] else []) ++ (if 0 ≤ outM T x then endsL T (pathM T (outM T x)) else []) := by
  intro k
  induction k with
  | zero => intro x _ _ h; omega
  | succ k ih =>
    intro x h0 h1 hk
    by_cases hz : x = 0
    · subst hz
      rw [outM_root T (Int.le_refl _), ownM_neg (Int.le_refl _), path_root h]
      simp [endsL]
      omega
    · have hd := failM_dep h (x := x) (by omega) h1
      have hi := failM_in h x
      have hf0 : 0 ≤ failM T x := by unfold failM; rw [if_neg hz]; exact (lsn_in h.pos _).1
      rw [outM_step h (by omega) h1, endsL_step h (by omega) h1]
      have ihf := ih (failM T x) hf0 hi.2 (by omega)
      by_cases ho : ownM T (failM T x) = 0
      · rw [if_pos ho]
        refine ⟨ihf.1, ihf.2.1, ihf.2.2.1, fun hh => ⟨by have := (ihf.2.2.2.1 hh).1; omega, (ihf.2.2.2.1 hh).2⟩, ?_⟩
        rw [ihf.2.2.2.2, ho]
        split <;> simp
      · rw [if_neg ho]
        have := ownM_lo T (failM T x)
        refine ⟨by omega, hi.2, ?_, fun _ => ⟨hd, by omega⟩, ?_⟩
        · intro hh; rw [hh, ownM_neg (Int.le_refl _)] at ho; exact ho rfl
        · rw [if_pos hf0]
          split <;> simp
end Go.Proofs.YtgjfhmahiiokeaaGreat.Y
