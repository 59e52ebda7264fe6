import Derived.Test.YtgjfhmahiiokeaaGreatLib
set_option linter.unusedVariables false
set_option linter.unusedSimpArgs false
set_option linter.unusedVariables false
set_option linter.unusedSimpArgs false
set_option maxRecDepth 8000
namespace Go.Proofs.YtgjfhmahiiokeaaGreat.Y

/-! ### Where a text is cut: the plain law -/
section
variable (b : Nat → UInt8) (n : Nat) (lt : UInt8 → UInt8 → Prop)

/-- The end that begins at a stands below the one that begins at c: a byte tells it. -/
def LTm (a c : Nat) : Prop := ∃ e, a + e < n ∧ c + e < n ∧ (∀ e', e' < e → b (a + e') = b (c + e')) ∧ lt (b (a + e)) (b (c + e))
def PREm (a c : Nat) : Prop := ∀ e, a + e < n → b (a + e) = b (c + e)
structure MaxSuf (c : Nat) : Prop where
  inn : c < n
  lo : ∀ t, t < c → LTm b n lt t c
  hi : ∀ t, c < t → t < n → LTm b n lt t c ∨ PREm b n t c
def PERm (q : Nat) : Prop := ∀ j, q ≤ j → j < n → b j = b (j - q)
def REPm (c q : Nat) : Prop := ∀ j, c ≤ j → j < c + q → j < n → q ≤ j → b j = b (j - q)
end

structure Strict (lt : UInt8 → UInt8 → Prop) : Prop where
  irr : ∀ x, ¬ lt x x
  asy : ∀ x y, lt x y → ¬ lt y x
  tr : ∀ x y z, lt x y → lt y z → lt x z
  tot : ∀ x y, lt x y ∨ x = y ∨ lt y x

variable {b : Nat → UInt8} {n : Nat} {lt : UInt8 → UInt8 → Prop}

theorem LTm.trans (hs : Strict lt) {x y z : Nat} (h : LTm b n lt x y) (k : LTm b n lt y z) : LTm b n lt x z := by
  obtain ⟨e, h1, h2, h3, h4⟩ := h
  obtain ⟨f, k1, k2, k3, k4⟩ := k
  rcases Nat.lt_trichotomy e f with hl | rfl | hl
  · exact ⟨e, h1, by omega, fun e' he => (h3 e' he).trans (k3 e' (by omega)), by rw [← k3 e hl]; exact h4⟩
  · exact ⟨e, h1, k2, fun e' he => (h3 e' he).trans (k3 e' he), hs.tr _ _ _ h4 k4⟩
  · exact ⟨f, by omega, k2, fun e' he => (h3 e' (by omega)).trans (k3 e' he), by rw [h3 f hl]; exact k4⟩
theorem LTm.not (hs : Strict lt) {x y : Nat} (h : LTm b n lt x y) (k : LTm b n lt y x ∨ PREm b n y x) : False := by
  obtain ⟨e, h1, h2, h3, h4⟩ := h
  rcases k with k | k
  · obtain ⟨f, k1, k2, k3, k4⟩ := k
    rcases Nat.lt_trichotomy e f with hl | rfl | hl
    · rw [k3 e hl] at h4; exact hs.irr _ h4
    · exact hs.asy _ _ h4 k4
    · rw [h3 f hl] at k4; exact hs.irr _ k4
  · rw [k e h2] at h4; exact hs.irr _ h4

/-- What repeats itself at the cut does so in the whole text. -/
theorem crit {lt' : UInt8 → UInt8 → Prop} (hs : Strict lt) (hs' : Strict lt') (hop : ∀ x y, lt' x y ↔ lt y x) {c c' : Nat} (h : MaxSuf b n lt c) (h' : MaxSuf b n lt' c') (hc : c' ≤ c) {q : Nat} (hq : 0 < q) (hr : REPm b n c q) : c < q ∧ PERm b n q := by
  have hcq : c < q := by
    rcases Nat.lt_or_ge c q with hl | hl
    · exact hl
    · exfalso
      obtain ⟨e, h1, h2, h3, h4⟩ := h.lo (c - q) (by omega)
      have heq : q ≤ e := by
        rcases Nat.lt_or_ge e q with he | he
        · exfalso
          have := hr (c + e) (by omega) (by omega) h2 (by omega)
          rw [this, show c + e - q = c - q + e by omega] at h4
          exact hs.irr _ h4
        · exact he
      refine LTm.not hs (x := c) (y := c + q) ⟨e - q, by omega, by omega, fun f hf => ?_, ?_⟩ (h.hi (c + q) (by omega) (by omega))
      · have := h3 (q + f) (by omega)
        rw [show c - q + (q + f) = c + f by omega, show c + (q + f) = c + q + f by omega] at this
        exact this
      · rw [show c - q + e = c + (e - q) by omega, show c + e = c + q + (e - q) by omega] at h4
        exact h4
  refine ⟨hcq, fun j hj hjn => ?_⟩
  rcases Nat.lt_or_ge j (c + q) with hl | hl
  · exact hr j (by omega) hl hjn hj
  have hpre : PREm b n (c + q) c := by
    rcases h.hi (c + q) (by omega) (by omega) with hlt | hp
    · exfalso
      obtain ⟨e, h1, h2, h3, h4⟩ := hlt
      have heq : ∀ f, f < c - c' → b (c' + q + f) = b (c' + f) := fun f hf => by
        have := hr (c' + q + f) (by omega) (by omega) (by omega) (by omega)
        rw [this]
        congr 1
        omega
      refine LTm.not hs' (x := c') (y := c' + q) ⟨c - c' + e, by omega, by omega, fun f hf => ?_, ?_⟩ (h'.hi (c' + q) (by omega) (by omega))
      · rcases Nat.lt_or_ge f (c - c') with hl | hl
        · exact (heq f hl).symm
        · have := h3 (f - (c - c')) (by omega)
          rw [show c + q + (f - (c - c')) = c' + q + f by omega, show c + (f - (c - c')) = c' + f by omega] at this
          exact this.symm
      · rw [show c' + (c - c' + e) = c + e by omega, show c' + q + (c - c' + e) = c + q + e by omega, hop]
        exact h4
    · exact hp
  have := hpre (j - (c + q)) (by omega)
  rw [show c + q + (j - (c + q)) = j by omega, show c + (j - (c + q)) = j - q by omega] at this
  exact this

/-- The period of an end, many times over. -/
theorem per_many {c p : Nat} (hp : ∀ j, c + p ≤ j → j < n → b j = b (j - p)) : ∀ (m j : Nat), c ≤ j → j + m * p < n → b (j + m * p) = b j
  | 0, j, _, _ => by simp
  | m + 1, j, hj, hn => by
    have e : j + (m + 1) * p = j + m * p + p := by rw [Nat.add_mul]; omega
    rw [e] at hn ⊢
    rw [hp (j + m * p + p) (by omega) hn, show j + m * p + p - p = j + m * p by omega]
    exact per_many hp m j hj (by omega)

/-- Where the least period of the greatest end is none of the whole text, that one's is longer than either part. -/
theorem crit_long {lt' : UInt8 → UInt8 → Prop} (hs : Strict lt) (hs' : Strict lt') (hop : ∀ x y, lt' x y ↔ lt y x) {c c' : Nat} (h : MaxSuf b n lt c) (h' : MaxSuf b n lt' c') (hc : c' ≤ c) {per : Nat} (h0 : 0 < per)
    (hp : ∀ j, c + per ≤ j → j < n → b j = b (j - per)) (hmin : ∀ d, 0 < d → d < per → ¬ ∀ j, c + d ≤ j → j < n → b j = b (j - d)) (hno : ¬ PERm b n per) {q : Nat} (hq0 : 0 < q) (hq : PERm b n q) : n - c < q := by
  rcases Nat.lt_or_ge (n - c) q with hl | hl
  · exact hl
  exfalso
  have hcn := h.inn
  have hcq := (crit hs hs' hop h h' hc hq0 (fun j _ _ h1 h2 => hq j h2 h1)).1
  have hper : per < q := by
    rcases Nat.lt_or_ge per q with h1 | h1
    · exact h1
    · exfalso
      rcases Nat.lt_or_ge q per with h2 | h2
      · exact hmin q hq0 h2 fun j hj hn => hq j (by omega) hn
      · have : q = per := by omega
        subst this
        exact hno hq
  have hdm := Nat.div_add_mod q per
  have hml := Nat.mod_lt q h0
  generalize hd : q % per = d at *
  generalize hm : q / per = m at *
  have hqe : q = m * per + d := by rw [Nat.mul_comm]; omega
  have hm1 : 1 ≤ m := by
    rcases Nat.eq_zero_or_pos m with hz | hz
    · subst hz; simp at hqe; omega
    · exact hz
  by_cases hz : d = 0
  · subst hz
    apply hno
    intro j hj hjn
    rcases Nat.lt_or_ge j c with hjc | hjc
    · have e1 := hq (j + q) (by omega) (by omega)
      have e2 := hq (j - per + q) (by omega) (by omega)
      rw [show j + q - q = j by omega] at e1
      rw [show j - per + q - q = j - per by omega] at e2
      rw [← e1, ← e2, hp (j + q) (by omega) (by omega)]
      congr 1
      omega
    · rcases Nat.lt_or_ge j (c + per) with h1 | h1
      · have e2 := hq (j - per + q) (by omega) (by omega)
        rw [show j - per + q - q = j - per by omega] at e2
        have e3 : (m - 1) * per + per = m * per := by
          rw [← Nat.succ_mul, show (m - 1).succ = m by omega]
        have e4 : j - per + q = j + (m - 1) * per := by omega
        rw [← e2, e4]
        exact (per_many hp (m - 1) j hjc (by omega)).symm
      · exact hp j h1 hjn
  · rcases Nat.lt_or_ge c d with hcd | hcd
    · have hrep : REPm b n c d := fun j h1 h2 h3 h4 => by
        have e1 := hq (j - d + q) (by omega) (by omega)
        rw [show j - d + q - q = j - d by omega] at e1
        rw [← e1, show j - d + q = j + m * per by omega]
        exact (per_many hp m j h1 (by omega)).symm
      have hpd := (crit hs hs' hop h h' hc (by omega) hrep).2
      exact hmin d (by omega) hml fun j hj hn => hpd j (by omega) hn
    · obtain ⟨e, h1, h2, h3, h4⟩ := h.lo (c - d) (by omega)
      have hde : d ≤ e := by
        rcases Nat.lt_or_ge e d with he | he
        · exfalso
          have e1 := hq (c - d + e + q) (by omega) (by omega)
          rw [show c - d + e + q - q = c - d + e by omega] at e1
          have e2 := per_many hp m (c + e) (by omega) (by omega)
          rw [show c - d + e + q = c + e + m * per by omega, e2] at e1
          rw [e1] at h4
          exact hs.irr _ h4
        · exact he
      refine LTm.not hs (x := c) (y := c + d) ⟨e - d, by omega, by omega, fun f hf => ?_, ?_⟩ (h.hi (c + d) (by omega) (by omega))
      · have := h3 (d + f) (by omega)
        rw [show c - d + (d + f) = c + f by omega, show c + (d + f) = c + d + f by omega] at this
        exact this
      · rw [show c - d + e = c + (e - d) by omega, show c + e = c + d + (e - d) by omega] at h4
        exact h4

/-! ### The greatest end, while it is sought -/
section
variable (b : Nat → UInt8) (n : Nat) (lt : UInt8 → UInt8 → Prop)
structure Seek (i j k p : Nat) : Prop where
  p0 : 0 < p
  jm : ∃ m, 1 ≤ m ∧ j = i + m * p
  kp : k < p
  jk : j + k ≤ n
  per : ∀ t, i + p ≤ t → t < j + k → b t = b (t - p)
  own : ∀ d, 0 < d → d < p → ∃ e, d + e < p ∧ (∀ e', e' < e → b (i + d + e') = b (i + e')) ∧ lt (b (i + d + e)) (b (i + e))
  lo : ∀ t, t < i → LTm b n lt t i
end

theorem Seek.start (hn : 0 < n) : Seek b n lt 0 1 0 1 :=
  ⟨by omega, ⟨1, by omega, by omega⟩, by omega, by omega, fun t h1 h2 => by omega, fun d h1 h2 => by omega, fun t h => by omega⟩

section
variable {i j k p : Nat}
theorem Seek.many (h : Seek b n lt i j k p) (m t : Nat) (h1 : i ≤ t) (h2 : t + m * p < j + k) : b (t + m * p) = b t := by
  refine per_many (n := j + k) (c := i) (p := p) (fun x hx hxn => h.per x hx hxn) m t h1 h2
/-- The bytes that fit. -/
theorem Seek.fit (h : Seek b n lt i j k p) {e : Nat} (he : e < k) : b (j + e) = b (i + e) := by
  obtain ⟨m, hm, hj⟩ := h.jm
  have := h.many m (i + e) (by omega) (by omega)
  rw [show i + e + m * p = j + e by omega] at this
  exact this
theorem Seek.more (h : Seek b n lt i j k p) (hjk : j + k < n) (he : b (i + k) = b (j + k)) (hk : k + 1 < p) : Seek b n lt i j (k + 1) p := by
  obtain ⟨m, hm, hj⟩ := h.jm
  refine ⟨h.p0, h.jm, hk, by omega, fun t h1 h2 => ?_, h.own, h.lo⟩
  rcases Nat.lt_or_ge t (j + k) with hl | hl
  · exact h.per t h1 hl
  · obtain rfl : t = j + k := by omega
    have e3 : (m - 1) * p + p = m * p := by rw [← Nat.succ_mul, show (m - 1).succ = m by omega]
    have := h.many (m - 1) (i + k) (by omega) (by omega)
    rw [← he, show j + k - p = i + k + (m - 1) * p by omega, this]
theorem Seek.round (h : Seek b n lt i j k p) (hjk : j + k < n) (he : b (i + k) = b (j + k)) (hk : ¬ k + 1 < p) : Seek b n lt i (j + p) 0 p := by
  obtain ⟨m, hm, hj⟩ := h.jm
  have hkp := h.kp
  have e3 : (m - 1) * p + p = m * p := by rw [← Nat.succ_mul, show (m - 1).succ = m by omega]
  refine ⟨h.p0, ⟨m + 1, by omega, by rw [Nat.succ_mul]; omega⟩, h.p0, by omega, fun t h1 h2 => ?_, h.own, h.lo⟩
  rcases Nat.lt_or_ge t (j + k) with hl | hl
  · exact h.per t h1 hl
  · obtain rfl : t = j + k := by omega
    have := h.many (m - 1) (i + k) (by omega) (by omega)
    rw [← he, show j + k - p = i + k + (m - 1) * p by omega, this]
/-- A place ahead of the second end, by its place in the period. -/
theorem place {i p t m : Nat} (hp : 0 < p) (h1 : i < t) (h2 : t < i + m * p) : ∃ m' d, d < p ∧ t = i + m' * p + d ∧ m' < m ∧ (d = 0 → 1 ≤ m') := by
  have hdm := Nat.div_add_mod (t - i) p
  have hml := Nat.mod_lt (t - i) hp
  refine ⟨(t - i) / p, (t - i) % p, hml, ?_, ?_, ?_⟩
  · rw [Nat.mul_comm]; omega
  · exact (Nat.div_lt_iff_lt_mul hp).2 (by omega)
  · intro hz
    rcases Nat.eq_zero_or_pos ((t - i) / p) with h0 | h0
    · rw [h0, hz] at hdm; simp at hdm; omega
    · exact h0
theorem Seek.down (hs : Strict lt) (h : Seek b n lt i j k p) (hjk : j + k < n) (hl : lt (b (j + k)) (b (i + k))) : Seek b n lt i (j + k + 1) 0 (j + k + 1 - i) := by
  obtain ⟨m, hm, hj⟩ := h.jm
  have hkp := h.kp
  have hp := h.p0
  have hmp : p ≤ m * p := Nat.le_mul_of_pos_left p hm
  refine ⟨by omega, ⟨1, by omega, by omega⟩, by omega, by omega, fun t h1 h2 => by omega, fun d h1 h2 => ?_, h.lo⟩
  rcases Nat.lt_or_ge (i + d) j with hd | hd
  · obtain ⟨m', d', hd', hte, hmm, hz⟩ := place hp (show i < i + d by omega) (by omega : i + d < i + m * p)
    have hmp' : (m' + 1) * p ≤ m * p := Nat.mul_le_mul_right p hmm
    rw [Nat.succ_mul] at hmp'
    by_cases hz' : d' = 0
    · have hm1 := hz hz'
      subst hz'
      have hsub : (m - m') * p + m' * p = m * p := by rw [← Nat.add_mul]; congr 1; omega
      refine ⟨j + k - (i + d), by omega, fun e' he' => ?_, ?_⟩
      · have := h.many m' (i + e') (by omega) (by omega)
        rw [show i + d + e' = i + e' + m' * p by omega, this]
      · have h4 := h.many (m - m') (i + k) (by omega) (by
          have : p ≤ m' * p := Nat.le_mul_of_pos_left p hm1
          omega)
        rw [show i + d + (j + k - (i + d)) = j + k by omega, show i + (j + k - (i + d)) = i + k + (m - m') * p by omega, h4]
        exact hl
    · obtain ⟨e, h3, h4, h5⟩ := h.own d' (by omega) hd'
      refine ⟨e, by omega, fun e' he' => ?_, ?_⟩
      · have := h.many m' (i + d' + e') (by omega) (by omega)
        rw [show i + d + e' = i + d' + e' + m' * p by omega, this]
        exact h4 e' he'
      · have := h.many m' (i + d' + e) (by omega) (by omega)
        rw [show i + d + e = i + d' + e + m' * p by omega, this]
        exact h5
  · obtain ⟨x, hx⟩ : ∃ x, i + d = j + x := ⟨i + d - j, by omega⟩
    by_cases hx0 : x = 0
    · subst hx0
      refine ⟨k, by omega, fun e' he' => ?_, ?_⟩
      · rw [show i + d + e' = j + e' by omega]; exact h.fit he'
      · rw [show i + d + k = j + k by omega]; exact hl
    · obtain ⟨e, h3, h4, h5⟩ := h.own x (by omega) (by omega)
      rcases Nat.lt_or_ge (x + e) k with hk | hk
      · refine ⟨e, by omega, fun e' he' => ?_, ?_⟩
        · rw [show i + d + e' = j + (x + e') by omega, h.fit (by omega), ← h4 e' he']
          congr 1; omega
        · rw [show i + d + e = j + (x + e) by omega, h.fit (by omega), show i + (x + e) = i + x + e by omega]
          exact h5
      · refine ⟨k - x, by omega, fun e' he' => ?_, ?_⟩
        · rw [show i + d + e' = j + (x + e') by omega, h.fit (by omega), ← h4 e' (by omega)]
          congr 1; omega
        · rw [show i + d + (k - x) = j + k by omega]
          rcases Nat.lt_or_ge (k - x) e with h6 | h6
          · rw [← h4 (k - x) h6, show i + x + (k - x) = i + k by omega]
            exact hl
          · obtain rfl : e = k - x := by omega
            rw [show i + x + (k - x) = i + k by omega] at h5
            exact hs.tr _ _ _ hl h5
theorem Seek.up (hs : Strict lt) (h : Seek b n lt i j k p) (hjk : j + k < n) (hl : lt (b (i + k)) (b (j + k))) : Seek b n lt j (j + 1) 0 1 := by
  obtain ⟨m, hm, hj⟩ := h.jm
  have hkp := h.kp
  have hp := h.p0
  have hij : LTm b n lt i j := ⟨k, by omega, hjk, fun e he => (h.fit he).symm, hl⟩
  refine ⟨by omega, ⟨1, by omega, by omega⟩, by omega, by omega, fun t h1 h2 => by omega, fun d h1 h2 => by omega, fun t ht => ?_⟩
  rcases Nat.lt_trichotomy t i with h1 | rfl | h1
  · exact (h.lo t h1).trans hs hij
  · exact hij
  · obtain ⟨m', d', hd', hte, hmm, hz⟩ := place hp h1 (by omega : t < i + m * p)
    have hmp' : (m' + 1) * p ≤ m * p := Nat.mul_le_mul_right p hmm
    rw [Nat.succ_mul] at hmp'
    have rd : ∀ e, t + e < j + k → b (t + e) = b (i + d' + e) := fun e he => by
      have := h.many m' (i + d' + e) (by omega) (by omega)
      rw [show t + e = i + d' + e + m' * p by omega, this]
    by_cases hz' : d' = 0
    · subst hz'
      refine ⟨k, by omega, hjk, fun e he => ?_, ?_⟩
      · rw [rd e (by omega), h.fit he]; congr 1
      · rw [rd k (by omega)]; exact hl
    · obtain ⟨e, h3, h4, h5⟩ := h.own d' (by omega) hd'
      rcases Nat.lt_or_ge e k with hk | hk
      · refine ⟨e, by omega, by omega, fun e' he' => ?_, ?_⟩
        · rw [rd e' (by omega), h4 e' he', h.fit (by omega)]
        · rw [rd e (by omega), h.fit hk]; exact h5
      · refine ⟨k, by omega, hjk, fun e' he' => ?_, ?_⟩
        · rw [rd e' (by omega), h4 e' (by omega), h.fit he']
        · rw [rd k (by omega)]
          rcases Nat.lt_or_ge k e with h6 | h6
          · rw [h4 k h6]; exact hl
          · obtain rfl : e = k := by omega
            exact hs.tr _ _ _ h5 hl
/-- It is found. -/
theorem Seek.done (hs : Strict lt) (h : Seek b n lt i j k p) (hjk : ¬ j + k < n) : MaxSuf b n lt i ∧ (∀ x, i + p ≤ x → x < n → b x = b (x - p)) ∧ (∀ d, 0 < d → d < p → ¬ ∀ x, i + d ≤ x → x < n → b x = b (x - d)) ∧ i + p ≤ n := by
  obtain ⟨m, hm, hj⟩ := h.jm
  have hkp := h.kp
  have hp := h.p0
  have hjn := h.jk
  have hmp : p ≤ m * p := Nat.le_mul_of_pos_left p hm
  refine ⟨⟨by omega, h.lo, fun t h1 h2 => ?_⟩, fun x h1 h2 => h.per x h1 (by omega), fun d h1 h2 hall => ?_, by omega⟩
  · have hdm := Nat.div_add_mod (t - i) p
    have hml := Nat.mod_lt (t - i) hp
    generalize hd : (t - i) % p = d' at *
    generalize hmm : (t - i) / p = m' at *
    have hte : t = i + m' * p + d' := by rw [Nat.mul_comm]; omega
    have rd : ∀ e, t + e < n → b (t + e) = b (i + d' + e) := fun e he => by
      have := h.many m' (i + d' + e) (by omega) (by omega)
      rw [show t + e = i + d' + e + m' * p by omega, this]
    by_cases hz' : d' = 0
    · subst hz'
      exact .inr fun e he => by rw [rd e he]; congr 1
    · obtain ⟨e, h3, h4, h5⟩ := h.own d' (by omega) hml
      rcases Nat.lt_or_ge (t + e) n with hk | hk
      · refine .inl ⟨e, hk, by omega, fun e' he' => ?_, ?_⟩
        · rw [rd e' (by omega), h4 e' he']
        · rw [rd e hk]; exact h5
      · exact .inr fun e' he' => by rw [rd e' he', h4 e' (by omega)]
  · obtain ⟨e, h3, h4, h5⟩ := h.own d h1 h2
    have := hall (i + d + e) (by omega) (by omega)
    rw [this, show i + d + e - d = i + e by omega] at h5
    exact hs.irr _ h5
end
end Go.Proofs.YtgjfhmahiiokeaaGreat.Y
