import Derived.Test.YtopdjdkkhpkmiaaEngT
set_option linter.unusedVariables false
set_option linter.unusedSimpArgs false
namespace Go.Sx
open Go

theorem Agree.again {n : Nat} {ρ : Env} {a : Act} (h : Agree n ρ a) {t : Nat} {v : Value} (ht : a.tmps[t]? = some v) : Agree n (ρ.set t (some v)) a := by
  refine ⟨h.size, h.nodef, fun j u hj => ?_⟩
  unfold Env.set at hj
  cases hb : Nat.beq j t with
  | false => rw [hb] at hj; exact h.val j u hj
  | true =>
    rw [hb] at hj
    have : j = t := Nat.eq_of_beq_eq_true hb
    subst this
    simp only [cond_true, Option.some.injEq] at hj
    rw [← hj]
    exact ht

theorem guardX_sound {n : Nat} {ops : Array Oper} {o : Oper} {dec : List Nat} {ρ : Env} {go : Bool → List Nat → Env → Prop} {a : Act}
    (h : Agree n ρ a) (hg : guardX ops o dec ρ go) : ∃ b dec' ρ', Agree n ρ' a ∧ Region.wanted o (yielded ops a.tmps) = b ∧ go b dec' ρ' := by
  unfold guardX at hg
  split at hg
  · rename_i hn
    exact ⟨true, dec, ρ, h, by simp [Region.wanted, hn], hg⟩
  rename_i j want hn
  split at hg
  · cases hg
  rename_i t ht
  have hw : ∀ v, a.tmps[t]? = some v → Region.wanted o (yielded ops a.tmps) = ((match v with | .bool b => some b | _ => none) == some want) := by
    intro v hv
    simp only [Region.wanted, hn, yielded, ht, Option.bind_some, hv]
    cases v <;> rfl
  split at hg
  · split at hg
    · rename_i b hb
      exact ⟨b == want, dec, ρ, h, by rw [hw _ (h.val _ _ hb)]; cases b <;> cases want <;> rfl, hg⟩
    · rename_i vs hb
      exact ⟨false, dec, ρ, h, by rw [hw _ (h.val _ _ hb)]; rfl, hg⟩
    · cases hg
  · split at hg
    · rename_i v hv
      have hv' := h.val _ _ hv
      rcases hg with ⟨rfl, hg⟩ | ⟨rfl, hg⟩
      · exact ⟨want, _, _, h.again hv', by rw [hw _ hv']; cases want <;> rfl, hg⟩
      · exact ⟨!want, _, _, h.again hv', by rw [hw _ hv']; cases want <;> rfl, hg⟩
    · cases hg

/-- A list of operations. -/
theorem compR_sound {P : Program} {n : Nat} {ops : Array Oper} {E : List PanicEntry → World → Prop} {Q : Exit → Env → World → Prop} :
    ∀ (l : List Oper) (i : Nat) (dec : List Nat) (ρ : Env) (a : Act) (w : World), Agree n ρ a → compR P n ops E (Q .normal) i l dec ρ w → wpList P ops (lift n E Q) l a w
  | [], _, _, ρ, a, w, h, hc => ⟨ρ, h, hc⟩
  | o :: l, i, dec, ρ, a, w, h, hc => by
    obtain ⟨b, dec', ρ', h', hw, hgo⟩ := guardX_sound h hc
    unfold wpList
    rw [hw]
    cases b with
    | true =>
      rw [if_pos rfl]
      refine .inl ?_
      refine Oper.wp_mono (fun a' w' hn => ?_) (stepX_sound (Q := Q) h' hgo)
      obtain ⟨ρ'', h'', hk⟩ := hn
      exact compR_sound l (i + 1) dec' ρ'' a' w' h'' hk
    | false =>
      rw [if_neg (by simp)]
      simp only at hgo
      split at hgo
      · rename_i hd
        exact compR_sound l (i + 1) _ _ _ _ (h'.put hd undef) hgo
      · cases hgo

/-- It yields v in each world that meets S; in each world at all, where it looks at no memory. -/
theorem stepQ_sound {P : Program} {n : Nat} {ops : Array Oper} {o : Oper} {ρ : Env} {S : World → Prop} {w : World} {K : Env → Prop} {a : Act}
    (h : Agree n ρ a) (hw : Region.wanted o (yielded ops a.tmps) = true) (hs : stepQ P n o ρ S w K) : ∃ v ρ', YieldsIf P ops (fun w' => asks P o = 1 → S w') o v a ∧ Agree n ρ' (a.put o.dst v) ∧ K ρ' := by
  unfold stepQ at hs
  split at hs
  · cases hs
  rename_i hd
  obtain ⟨dst, op, type, pos, after, guard⟩ := o
  simp only at hd
  have gen : ∀ (hm : (match known ρ op.operands.toList with
      | false => False
      | true =>
        match opV ρ { dst, op, type, pos, after, guard } with
        | some s => match asks P { dst, op, type, pos, after, guard } with
          | 0 => PURE P s fun v => K (ρ.put dst (some v))
          | 1 => READ P S s w fun v => K (ρ.put dst (some v))
          | _ => False
        | none => False)), ∃ v ρ', YieldsIf P ops (fun w' => asks P { dst, op, type, pos, after, guard } = 1 → S w') { dst, op, type, pos, after, guard } v a ∧ Agree n ρ' (a.put dst v) ∧ K ρ' := by
    intro hm
    split at hm
    · cases hm
    rename_i hk
    split at hm
    · rename_i s hsv
      split at hm
      · obtain ⟨v, hall, hK⟩ := hm
        exact ⟨v, _, .inl ⟨hw, fun w' _ => opV_run h (o := { dst, op, type, pos, after, guard }) hk hsv (hall w')⟩, h.put hd v, hK⟩
      · rename_i h1
        obtain ⟨v, _, hall, hK⟩ := hm
        exact ⟨v, _, .inl ⟨hw, fun w' hS => opV_run h (o := { dst, op, type, pos, after, guard }) hk hsv (hall w' (hS h1))⟩, h.put hd v, hK⟩
      · cases hm
    · cases hm
  cases op with
  | move x => exact ⟨a.eval x, _, .inl ⟨hw, fun w' _ => rfl⟩, h.move hd x, hs⟩
  | assign x => exact ⟨a.eval x, _, .inl ⟨hw, fun w' _ => rfl⟩, h.move hd x, hs⟩
  | _ => exact gen hs

theorem lift_panic {n : Nat} {E : List PanicEntry → World → Prop} {Q : Exit → Env → World → Prop} (d : Option Nat) (v : Value) :
    ∀ (c : List PanicEntry) (a : Act) (w : World), lift n E Q (.panic c) (a.put d v) w → lift n E Q (.panic c) a w := fun _ a _ h => ⟨by cases d <;> exact h.1, h.2⟩

theorem wpOp_of_wp {P : Program} {ops : Array Oper} {Q : Exit → Act → World → Prop} {i : Nat} {o : Oper} {K : Act → World → Prop} {a : Act} {w : World} (hi : ops[i]? = some o)
    (hw : Region.wanted o (yielded ops a.tmps) = true) (h : o.wp P a w K Q) : wpOp P ops Q i K a w := by
  unfold wpOp
  simp only [hi, hw, if_true]
  exact .inl h

theorem allP_mem {g : Nat → Prop} : ∀ {l : List Nat} {i : Nat}, allP i l g → ∀ {j}, j ∈ i :: l → g j
  | [], i, h, j, hj => by simp at hj; subst hj; exact h
  | k :: l, i, h, j, hj => by
    rcases List.mem_cons.1 hj with rfl | hj
    · exact h.1
    · exact allP_mem h.2 hj

theorem allP_mono {g g' : Nat → Prop} : ∀ {l : List Nat} {i : Nat}, allP i l g → (∀ j, g j → g' j) → allP i l g'
  | [], i, h, hk => hk _ h
  | k :: l, i, h, hk => ⟨hk _ h.1, allP_mono h.2 hk⟩

/-! ### Whatever order is picked: what is kept till nothing is read any more -/
/-- What is known of the world when so much has come up. -/
def Still (tl : Nat) (S : World → Prop) (listed : Array Bool) (w : World) : Prop := listed.getD tl false = true ∨ S w

/-- Who waits for others has come up behind them. -/
def Led (ops : Array Oper) (listed : Array Bool) : Prop := ∀ j, listed.getD j false = true → ∀ r ∈ depsOf ops j, listed.getD r false = true

theorem Led.clo {ops : Array Oper} {listed : Array Bool} (h : Led ops listed) : ∀ (f : Nat) (s : List Nat), (∀ j ∈ s, listed.getD j false = true) → ∀ j ∈ clo ops f s, listed.getD j false = true
  | 0, s, hs, j, hj => hs j hj
  | f + 1, s, hs, j, hj => by
    unfold Go.Sx.clo at hj
    refine Led.clo h f _ (fun i hi => ?_) j hj
    rw [List.mem_eraseDups] at hi
    rcases List.mem_append.1 hi with hi | hi
    · exact hs i hi
    · obtain ⟨x, hx, hi⟩ := List.mem_flatMap.1 hi
      exact h x (hs x hx) i hi

def wpAnyG (P : Program) (ops : Array Oper) (Q : Exit → Act → World → Prop) (tl : Nat) : (World → Prop) → Nat → Array Bool → Act → World → Prop
  | _, 0, listed, a, w => Region.ready .any ops listed = [] ∧ Q .normal a w
  | S, f + 1, listed, a, w => (Region.ready .any ops listed = [] → Q .normal a w) ∧
    ∀ i ∈ Region.ready .any ops listed, wpOp P ops Q i (fun a' w' => ∃ S' : World → Prop, (∀ w, S' w → S w) ∧ Still tl S' (listed.setIfInBounds i true) w' ∧ wpAnyG P ops Q tl S' f (listed.setIfInBounds i true) a' w') a w

theorem wpAny_of_G {P : Program} {ops : Array Oper} {Q : Exit → Act → World → Prop} {tl : Nat} : ∀ {S : World → Prop} (f : Nat) (listed : Array Bool) (a : Act) (w : World),
    wpAnyG P ops Q tl S f listed a w → wpAny P .any ops Q f listed a w
  | _, 0, _, _, _, h => h
  | _, f + 1, _, _, _, h => ⟨h.1, fun i hi => wpOp_mono (fun _ _ h' => by obtain ⟨_, _, _, h'⟩ := h'; exact wpAny_of_G f _ _ _ h') (h.2 i hi)⟩

theorem getD_set_iff {listed : Array Bool} {i j : Nat} (hi : i < listed.size) : (listed.setIfInBounds i true).getD j false = true ↔ j = i ∨ listed.getD j false = true := by
  by_cases e : j = i
  · subst e; simp [hi]
  · rw [getD_set_ne false (Ne.symm e)]; simp [e]

theorem ready_lt {ops : Array Oper} {listed : Array Bool} {i : Nat} (h : i ∈ Region.ready .any ops listed) : i < ops.size := by
  obtain ⟨_, o, ho, _⟩ := mem_ready.1 h
  exact (Array.getElem?_eq_some_iff.1 ho).1

theorem deps_ready {ops : Array Oper} {listed : Array Bool} {i r : Nat} (h : i ∈ Region.ready .any ops listed) (hw : r ∈ depsOf ops i) : listed.getD r false = true := by
  obtain ⟨_, o, ho, hall⟩ := mem_ready.1 h
  unfold depsOf at hw
  rw [ho] at hw
  obtain ⟨e, he, hb⟩ := List.mem_filterMap.1 hw
  cases hbb : Region.binds .any e with
  | false => rw [hbb] at hb; cases hb
  | true =>
    rw [hbb] at hb
    simp only [cond_true, Option.some.injEq] at hb
    rw [← hb]
    exact hall e (by simpa using he) hbb

theorem Led.step {ops : Array Oper} {listed : Array Bool} (h : Led ops listed) (hsz : listed.size = ops.size) {i : Nat} (hi : i ∈ Region.ready .any ops listed) : Led ops (listed.setIfInBounds i true) := by
  intro j hj r hr
  have hlt : i < listed.size := by rw [hsz]; exact ready_lt hi
  rw [getD_set_iff hlt] at hj ⊢
  rcases hj with rfl | hj
  · exact .inr (deps_ready hi hr)
  · exact .inr (h j hj r hr)

theorem wpAnyG_first {P : Program} {ops : Array Oper} {Q : Exit → Act → World → Prop} {tl : Nat} {i : Nat} {oi : Oper} {v : Value} {rd : Prop} (hi : ops[i]? = some oi) (hsel : ∀ (j : Nat) (o : Oper) cs b, ops[j]? = some o → o.op ≠ .select cs b)
    (hQ : ∀ c a w, Q (.panic c) (a.put oi.dst v) w → Q (.panic c) a w) (hne : i ≠ tl) (hrd : rd → tl < ops.size → i ∈ clo ops 8 [tl]) :
    ∀ (f : Nat) (S : World → Prop) (listed : Array Bool) (a : Act) (w : World), listed.size = ops.size → Led ops listed →
      (∀ j oj, ops[j]? = some oj → j ≠ i → listed.getD j true = false → (∀ e ∈ oj.after, Region.binds .any e = true → e.on ≠ i) → oi.apart ops oj = true) →
      i ∈ Region.ready .any ops listed → YieldsIf P ops (fun w' => rd → S w') oi v a → Still tl S listed w →
      wpAnyG P ops Q tl S f (listed.setIfInBounds i true) (a.put oi.dst v) w → wpAnyG P ops Q tl S (f + 1) listed a w := by
  have valid : ∀ (S : World → Prop) (listed : Array Bool) (w : World), listed.size = ops.size → Led ops listed → i ∈ Region.ready .any ops listed → Still tl S listed w → rd → S w := by
    intro S listed w hsz hled hr hS h
    rcases hS with ht | hS
    · exfalso
      have htl : tl < ops.size := by
        rcases Nat.lt_or_ge tl listed.size with h1 | h1
        · omega
        · simp [Array.getElem?_eq_none h1] at ht
      have h2 := hled.clo 8 [tl] (fun j hj => by simp at hj; subst hj; exact ht) i (hrd h htl)
      have h3 := (mem_ready.1 hr).1
      have hlt : i < listed.size := by rw [hsz]; exact ready_lt hr
      simp [hlt] at h2 h3
      rw [h2] at h3
      cases h3
    · exact hS
  have moved : ∀ (S : World → Prop) (listed : Array Bool) (w : World), listed.size = ops.size → i ∈ Region.ready .any ops listed → (Still tl S (listed.setIfInBounds i true) w ↔ Still tl S listed w) := by
    intro S listed w hsz hr
    unfold Still
    rw [getD_set_ne false hne]
  intro f
  induction f with
  | zero =>
    intro S listed a w hsz hled _ hr hy hS H
    refine ⟨fun h => (by rw [h] at hr; cases hr), fun j hj => ?_⟩
    by_cases hji : j = i
    · subst hji
      exact hy.wpOp hi (valid _ _ _ hsz hled hr hS) ⟨S, fun _ h => h, (moved _ _ _ hsz hr).2 hS, H⟩
    · have := ready_mono hj hji
      rw [H.1] at this
      cases this
  | succ f ih =>
    intro S listed a w hsz hled hfree hr hy hS H
    refine ⟨fun h => (by rw [h] at hr; cases hr), fun j hj => ?_⟩
    by_cases hji : j = i
    · subst hji
      exact hy.wpOp hi (valid _ _ _ hsz hled hr hS) ⟨S, fun _ h => h, (moved _ _ _ hsz hr).2 hS, H⟩
    · have h1 := H.2 j (ready_mono hj hji)
      obtain ⟨hjun, oj, hoj, hall⟩ := mem_ready.1 hj
      have hnot : ∀ e ∈ oj.after, Region.binds .any e = true → e.on ≠ i := fun e he hb heq => by
        have h1 := hall e he hb
        have h0 := (mem_ready.1 hr).1
        rw [heq] at h1
        have hlt : i < listed.size := by rw [hsz]; exact ready_lt hr
        simp [hlt] at h0 h1
        rw [h0] at h1
        cases h1
      have h2 := wpOp_putIf hoj (hfree j oj hoj hji hjun hnot) (fun cs b => hsel i oi cs b hi) (fun cs b => hsel j oj cs b hoj) hQ hy h1
      refine wpOp_mono (fun a' w' h3 => ?_) h2
      obtain ⟨hy', S', hsub, hS', hG⟩ := h3
      have hsz' : (listed.setIfInBounds j true).size = ops.size := by simp [hsz]
      have hr' := ready_mono hr (Ne.symm hji)
      rw [Array.setIfInBounds_comm _ _ (Ne.symm hji)] at hS' hG
      have hS2 := (moved _ _ _ hsz' hr').1 hS'
      refine ⟨S', hsub, hS2, ih S' _ a' w' hsz' (hled.step hsz hj) (fun k ok hk hki hun hno => ?_) hr' (hy'.elim (fun ⟨x, y⟩ => .inl ⟨x, fun w h => y w fun r => hsub w (h r)⟩) .inr) hS2 hG⟩
      refine hfree k ok hk hki ?_ hno
      by_cases hjk : j = k
      · subst hjk; exact hjun
      · rw [getD_set_ne true hjk] at hun; exact hun

theorem tailOf_waits {P : Program} {ops : Array Oper} (ht : tailOf P ops < ops.size) {r : Nat} {o : Oper} (ho : ops[r]? = some o) (hr : asks P o = 1) : r ∈ clo ops 8 [tailOf P ops] := by
  unfold tailOf at ht ⊢
  split at ht
  · rename_i e he
    have h1 := List.find?_some he
    simp only [Bool.and_eq_true, List.all_eq_true, List.mem_range] at h1
    have h2 := h1.2 r (Array.getElem?_eq_some_iff.1 ho).1
    simp only [ho, hr] at h2
    simpa using h2
  · omega

theorem tailOf_loud {P : Program} {ops : Array Oper} {i : Nat} {o : Oper} (ho : ops[i]? = some o) (hq : Nat.ble (asks P o) 1 = true) : i ≠ tailOf P ops := by
  intro e
  have hlt : i < ops.size := (Array.getElem?_eq_some_iff.1 ho).1
  have hlt' : tailOf P ops < ops.size := by omega
  unfold tailOf at e hlt'
  split at e
  · rename_i e' he
    have h1 := List.find?_some he
    simp only [Bool.and_eq_true] at h1
    subst e
    have h2 := h1.1
    rw [ho] at h2
    simp only [beq_iff_eq] at h2
    rw [h2] at hq
    simp at hq
  · omega

theorem compD_sound {P : Program} {n : Nat} {ops : Array Oper} {E : List PanicEntry → World → Prop} {Q : Exit → Env → World → Prop} (hsel : Region.noSelect ops = true) :
    ∀ (f : Nat) (listed : Array Bool) (S : World → Prop) (dec : List Nat) (ρ : Env) (a : Act) (w : World), Agree n ρ a → listed.size = ops.size → Led ops listed → Still (tailOf P ops) S listed w →
      compD P n ops E (Q .normal) (tailOf P ops) f listed S dec ρ w → wpAnyG P ops (lift n E Q) (tailOf P ops) S f listed a w := by
  intro f
  induction f with
  | zero =>
    intro listed S dec ρ a w h hsz hled hS hc
    unfold compD at hc
    split at hc
    · rename_i hr
      exact ⟨hr, ρ, h, hc⟩
    · cases hc
  | succ f ih =>
    intro listed S dec ρ a w h hsz hled hS hc
    unfold compD at hc
    split at hc
    · rename_i hr
      exact ⟨fun _ => ⟨ρ, h, hc⟩, by rw [hr]; simp⟩
    · rename_i i₀ rs hr
      split at hc
      · rename_i i hf
        split at hc
        · cases hc
        · rename_i o ho
          have hmem : i ∈ Region.ready .any ops listed := by rw [hr]; exact List.mem_of_find?_eq_some hf
          have hsome := List.find?_some hf
          simp only [Bool.and_eq_true, ho] at hsome
          have hfree := Region.free_spec (md := .any) (listed := listed) ho hsome.2
          have hne := tailOf_loud ho hsome.1
          have hS' : Still (tailOf P ops) S (listed.setIfInBounds i true) w := by
            unfold Still; rw [getD_set_ne false hne]; exact hS
          have hsz' : (listed.setIfInBounds i true).size = ops.size := by simp [hsz]
          obtain ⟨b, dec', ρ', h', hw, hgo⟩ := guardX_sound h hc
          cases b with
          | true =>
            obtain ⟨v, ρ'', hy, h'', hK⟩ := stepQ_sound h' hw hgo
            exact wpAnyG_first ho (Region.noSelect_spec hsel) (lift_panic _ _) hne (fun h1 ht => tailOf_waits ht ho h1) f S listed a w hsz hled hfree hmem hy hS
              (ih _ _ _ _ _ _ h'' hsz' (hled.step hsz hmem) hS' hK)
          | false =>
            simp only at hgo
            split at hgo
            · rename_i hd
              exact wpAnyG_first (v := undef) (rd := False) ho (Region.noSelect_spec hsel) (lift_panic _ _) hne (fun h1 => h1.elim) f S listed a w hsz hled hfree hmem (.inr ⟨hw, rfl⟩) hS
                (ih _ _ _ _ _ _ (h'.put hd undef) hsz' (hled.step hsz hmem) hS' hgo)
            · cases hgo
      · refine ⟨fun h0 => (by rw [h0] at hr; cases hr), ?_⟩
        intro i hi
        have hi' := hi
        rw [hr] at hi'
        replace hc := allP_mem hc hi'
        have hsz' : (listed.setIfInBounds i true).size = ops.size := by simp [hsz]
        split at hc
        · cases hc
        · rename_i o ho
          obtain ⟨b, dec', ρ', h', hw, hgo⟩ := guardX_sound h hc
          cases b with
          | true =>
            refine wpOp_of_wp ho hw ?_
            refine Oper.wp_mono (fun a' w' hn => ?_) (stepX_sound (Q := Q) h' hgo)
            obtain ⟨ρ'', h'', hk⟩ := hn
            unfold keeps at hk
            split at hk
            · rename_i ht
              exact ⟨S, fun _ h => h, .inl ht, ih _ _ _ _ _ _ h'' hsz' (hled.step hsz hi) (.inl ht) hk⟩
            · obtain ⟨S', hs1, hs2, hk⟩ := hk
              exact ⟨S', hs1, .inr hs2, ih _ _ _ _ _ _ h'' hsz' (hled.step hsz hi) (.inr hs2) hk⟩
          | false =>
            simp only at hgo
            split at hgo
            · rename_i hd
              unfold wpOp
              simp only [ho, hw, Bool.false_eq_true, if_false]
              have hS' : Still (tailOf P ops) S (listed.setIfInBounds i true) w := by
                rcases hS with hS | hS
                · exact .inl (getD_set_true hS)
                · exact .inr hS
              exact ⟨S, fun _ h => h, hS', ih _ _ _ _ _ _ (h'.put hd undef) hsz' (hled.step hsz hi) hS' hgo⟩
            · cases hgo

end Go.Sx
