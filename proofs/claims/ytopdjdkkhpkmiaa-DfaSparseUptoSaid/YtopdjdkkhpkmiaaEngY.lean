import Derived.Test.YtopdjdkkhpkmiaaEngX
set_option linter.unusedVariables false
set_option linter.unusedSimpArgs false
namespace Go.Sx
open Go

section
variable {P : Program} {n : Nat} {an : List (Nat × List Nat)} {E : List PanicEntry → World → Prop}

/-- A loop of the machine out of a loop of environments. -/
theorem loop_sound {live ms : List Nat} {ρ : Env} {w : World} {a : Act} {c : Code} {body : Env → World → (Env → World → Prop) → Prop}
    (ha : Agree n ρ a) (hall : allIn live ms = true) (hmono : ∀ σ w K K', (∀ σ w, K σ w → K' σ w) → body σ w K → body σ w K')
    (h : loopX live ρ (ρ.forget ms) w body)
    (hkeep : ∀ σ w K, body σ w K → body σ w (fun σ' w' => K σ' w' ∧ ∀ j, j ∉ ms → σ' j = σ j))
    (QQ : (Act → World → Prop) → Exit → Act → World → Prop)
    (hbody : ∀ σ a w (K : Env → World → Prop) (J : Act → World → Prop), Agree n σ a → body σ w K → (∀ a' w', Nxt n K a' w' → J a' w') → c.wp P (QQ J) a w) :
    ∃ (J : Act → World → Prop) (μ : Act → World → Nat), J a w ∧ ∀ a w, J a w → c.wp P (QQ fun a' w' => J a' w' ∧ μ a' w' < μ a w) a w := by
  obtain ⟨I, μ, ⟨σ0, hI0, hl0⟩, hform, hμ, hstep⟩ := loopX_out (allIn_nodup hall) hmono h
  have hin := allIn_mem hall
  refine ⟨fun a w => ∃ σ, Agree n σ a ∧ I σ w ∧ ∀ j, j ∉ ms → a.tmps[j]? = a.tmps[j]? , fun a w => μ (fun j => a.tmps[j]?) w, ?_, ?_⟩
  · refine ⟨σ0, ⟨ha.size, ha.nodef, fun j v hj => ?_⟩, hI0, fun _ _ => rfl⟩
    by_cases hjl : j ∈ live
    · rw [hl0 j hjl] at hj
      exact ha.val j v hj
    · rw [(hform _ _ hI0).1 j hjl] at hj
      by_cases hm : j ∈ ms
      · rw [forget_in hm] at hj; cases hj
      · rw [forget_other hm] at hj; exact ha.val j v hj
  · rintro a w ⟨σ, hσ, hI, _⟩
    have hb := hkeep _ _ _ (hstep σ w hI)
    refine hbody σ a w _ _ hσ hb ?_
    rintro a' w' ⟨σ', hσ', ⟨σ1, hI1, hlt, heq⟩, hk⟩
    have hA1 : Agree n σ1 a' := by
      refine ⟨hσ'.size, hσ'.nodef, fun j v hj => ?_⟩
      by_cases hjl : j ∈ live
      · rw [heq j hjl] at hj
        exact hσ'.val j v hj
      · rw [(hform _ _ hI1).1 j hjl] at hj
        by_cases hm : j ∈ ms
        · rw [forget_in hm] at hj; cases hj
        · refine hσ'.val j v ?_
          rw [hk j hm, (hform _ _ hI).1 j hjl]
          exact hj
    refine ⟨⟨σ1, hA1, hI1, fun _ _ => rfl⟩, ?_⟩
    have e1 : μ (fun j => a'.tmps[j]?) w' = μ σ1 w' := hμ _ _ _ fun j hj => by
      obtain ⟨x, hx⟩ := (hform _ _ hI1).2 j hj
      rw [hx]
      exact hA1.val j x hx
    have e2 : μ (fun j => a.tmps[j]?) w = μ σ w := hμ _ _ _ fun j hj => by
      obtain ⟨x, hx⟩ := (hform _ _ hI).2 j hj
      rw [hx]
      exact hσ.val j x hx
    show μ (fun j => a'.tmps[j]?) w' < μ (fun j => a.tmps[j]?) w
    rw [e1, e2]
    exact hlt

theorem joinX_out {live ms : List Nat} {ρ : Env} {first : (Env → World → Prop) → Prop} {rest : Env → World → Prop} (hall : allIn live ms = true)
    (hmono : ∀ K K', (∀ σ w, (∀ j, j ∉ ms → σ j = ρ j) → K σ w → K' σ w) → first K → first K') (h : joinX live (ρ.forget ms) first rest) :
    first (fun σ w => ∃ σ', (∀ j v, σ' j = some v → σ j = some v) ∧ rest σ' w) := by
  have hin := allIn_mem hall
  have hnd := allIn_nodup hall
  have base : ∀ (σ : Env), (∀ j, j ∉ ms → σ j = ρ j) → ∀ j v, (ρ.forget ms) j = some v → σ j = some v := by
    intro σ hσ j v hj
    by_cases hm : j ∈ ms
    · rw [forget_in hm] at hj; cases hj
    · rw [forget_other hm] at hj; rw [hσ j hm]; exact hj
  have one : ∀ (σ ρ' : Env) (a : Nat) (x : Value), σ a = some x → (∀ j v, ρ' j = some v → σ j = some v) → ∀ j v, (ρ'.set a (some x)) j = some v → σ j = some v := by
    intro σ ρ' a x ha hρ j v hj
    by_cases e : j = a
    · subst e; rw [set_same] at hj; rw [ha]; exact hj
    · rw [set_other e] at hj; exact hρ j v hj
  unfold joinX at h
  split at h
  · obtain ⟨J, hf, hr⟩ := h
    exact hmono _ _ (fun σ w hσ hJ => ⟨_, base σ hσ, hr w hJ⟩) hf
  · obtain ⟨J, hf, hr⟩ := h
    refine hmono _ _ (fun σ w hσ hJ => ?_) hf
    split at hJ
    · rename_i x hx
      exact ⟨_, one _ _ _ _ hx (base σ hσ), hr _ w hJ⟩
    · cases hJ
  · obtain ⟨J, hf, hr⟩ := h
    refine hmono _ _ (fun σ w hσ hJ => ?_) hf
    split at hJ
    · rename_i x y hx hy
      exact ⟨_, one _ _ _ _ hy (one _ _ _ _ hx (base σ hσ)), hr _ _ w hJ⟩
    · cases hJ
  · obtain ⟨J, hf, hr⟩ := h
    refine hmono _ _ (fun σ w hσ hJ => ?_) hf
    split at hJ
    · rename_i x y z hx hy hz
      exact ⟨_, one _ _ _ _ hz (one _ _ _ _ hy (one _ _ _ _ hx (base σ hσ))), hr _ _ _ w hJ⟩
    · cases hJ
  · cases h

theorem Agree.less {ρ ρ' : Env} {a : Act} (h : Agree n ρ a) (hl : ∀ j v, ρ' j = some v → ρ j = some v) : Agree n ρ' a :=
  ⟨h.size, h.nodef, fun j v hj => h.val j v (hl j v hj)⟩

/-! ### Inside a scope -/
def SP (P : Program) (c0 : Code) (Q : Exit → Act → World → Prop) (c : Code) (a : Act) (w : World) : Prop :=
  ∀ b k cs, ∃ e a' w', Q e a' w' ∧ Arrives P (lone (b.at a (.code c :: .inScope c0 :: k)) cs w) b k cs e a' w'

theorem scope_of_SP {c0 : Code} {Q : Exit → Act → World → Prop} {a : Act} {w : World} (h : SP P c0 Q c0 a w) : (Code.scope c0).wp P Q a w := by
  intro b k cs
  obtain ⟨e, a', w', hq, harr⟩ := h b k cs
  exact ⟨e, a', w', hq, .of_steps (.one step_scope) harr⟩

theorem SP_of_wp {c0 c : Code} {Q : Exit → Act → World → Prop} {a : Act} {w : World} (hQ : ∀ l a w, ¬ Q (.goto l) a w) (h : c.wp P Q a w) : SP P c0 Q c a w := by
  intro b k cs
  obtain ⟨e, a₁, w₁, hq, harr⟩ := h b (.inScope c0 :: k) cs
  cases e with
  | normal => exact ⟨.normal, a₁, w₁, hq, Steps.trans harr (.one step_inScope)⟩
  | exit id => exact ⟨.exit id, a₁, w₁, hq, fun k' hk => harr k' (by simp [exitTo, hk])⟩
  | goto l => exact (hQ _ _ _ hq).elim
  | ret => exact ⟨_, a₁, w₁, hq, harr⟩
  | panic ch => exact ⟨_, a₁, w₁, hq, harr⟩
  | outgrown => exact ⟨_, a₁, w₁, hq, harr⟩

theorem SP_seq {c0 x y : Code} {Q : Exit → Act → World → Prop} {a : Act} {w : World} (hQ : ∀ l a w, ¬ Q (.goto l) a w)
    (h : x.wp P (Exit.then (fun a w => SP P c0 Q y a w) Q) a w) : SP P c0 Q (.seq x y) a w := by
  intro b k cs
  obtain ⟨e, a₁, w₁, hq, harr⟩ := h b (.code y :: .inScope c0 :: k) cs
  cases e with
  | normal =>
    obtain ⟨e₂, a₂, w₂, hq₂, harr₂⟩ := hq b k cs
    exact ⟨e₂, a₂, w₂, hq₂, .of_steps (.head step_seq harr) harr₂⟩
  | exit id => exact ⟨_, a₁, w₁, hq, fun k' hk => .head step_seq (harr k' (by simp [exitTo, hk]))⟩
  | goto l => exact (hQ _ _ _ hq).elim
  | ret => exact ⟨_, a₁, w₁, hq, .of_steps (b := b) (k := k) (cs := cs) (e := .ret) (.one step_seq) harr⟩
  | panic ch => exact ⟨_, a₁, w₁, hq, .of_steps (b := b) (k := k) (cs := cs) (e := .panic ch) (.one step_seq) harr⟩
  | outgrown => exact ⟨_, a₁, w₁, hq, .of_steps (b := b) (k := k) (cs := cs) (e := .outgrown) (.one step_seq) harr⟩

theorem SP_label {c0 y : Code} {l : Nat} {Q : Exit → Act → World → Prop} {a : Act} {w : World} (hQ : ∀ l a w, ¬ Q (.goto l) a w) (hf : findLabel c0 l = some (.seq .skip y))
    {J : Act → World → Prop} {μ : Act → World → Nat} (h0 : J a w) (pass : ∀ a w, J a w → y.wp P (Exit.jump l (fun a' w' => J a' w' ∧ μ a' w' < μ a w) Q) a w) : SP P c0 Q (.seq (.label l) y) a w := by
  intro b k cs
  have hg : gotoIn l (.inScope c0 :: k) = some (.code (.seq .skip y) :: .inScope c0 :: k) := by simp [gotoIn, hf]
  have key : ∀ n a w, μ a w = n → J a w → ∃ e a' w', Q e a' w' ∧ Arrives P (lone (b.at a (.code y :: .inScope c0 :: k)) cs w) b k cs e a' w' := by
    intro n
    induction n using Nat.strongRecOn with
    | _ n ih =>
      intro a w hn hJ
      obtain ⟨e, a₁, w₁, hq, harr⟩ := pass a w hJ b (.inScope c0 :: k) cs
      cases e with
      | normal => exact ⟨.normal, a₁, w₁, hq, Steps.trans harr (.one step_inScope)⟩
      | exit id => exact ⟨.exit id, a₁, w₁, hq, fun k' hk => harr k' (by simp [exitTo, hk])⟩
      | goto l' =>
        obtain ⟨rfl, hJ', hlt⟩ := hq
        obtain ⟨e₂, a₂, w₂, hq₂, harr₂⟩ := ih _ (by omega) a₁ w₁ rfl hJ'
        exact ⟨e₂, a₂, w₂, hq₂, .of_steps (Steps.trans (harr _ hg) (.head step_seq (.one step_skip))) harr₂⟩
      | ret => exact ⟨_, a₁, w₁, hq, harr⟩
      | panic ch => exact ⟨_, a₁, w₁, hq, harr⟩
      | outgrown => exact ⟨_, a₁, w₁, hq, harr⟩
  obtain ⟨e, a', w', hq, harr⟩ := key _ a w rfl h0
  exact ⟨e, a', w', hq, .of_steps (.head step_seq (.one step_label)) harr⟩

theorem findLabel_none {x : Code} {l : Nat} (h : l ∉ labs x) : findLabel x l = none := by
  induction x with
  | seq a b iha ihb =>
    simp only [labs, List.mem_append, not_or] at h
    simp [findLabel, iha h.1, ihb h.2]
  | label l' =>
    simp only [labs, List.mem_singleton] at h
    simp [findLabel]
    omega
  | _ => simp [findLabel]

theorem lift_mono {Q Q' : Exit → Env → World → Prop} (h : ∀ e ρ w, Q e ρ w → Q' e ρ w) : ∀ e a w, lift n E Q e a w → lift n E Q' e a w := by
  intro e a w hl
  cases e with
  | panic c => exact hl
  | outgrown => exact hl
  | _ => obtain ⟨ρ, ha, hq⟩ := hl; exact ⟨ρ, ha, h _ _ _ hq⟩

theorem comp_sound : ∀ (c : Code) (sc : Bool) (Q : Exit → Env → World → Prop) (ρ : Env) (a : Act) (w : World), Agree n ρ a → comp P n an E sc c Q ρ w →
    (sc = false → c.wp P (lift n E Q) a w) ∧
    (sc = true → ∀ c0, (∀ l, spineLab c = some l → findLabel c0 l = findLabel c l) → (∀ l ρ w, ¬ Q (.goto l) ρ w) → SP P c0 (lift n E Q) c a w) := by
  intro c
  have simple : ∀ (c : Code) (Q : Exit → Env → World → Prop) (a : Act) (w : World) (sc : Bool), c.wp P (lift n E Q) a w →
      (sc = false → c.wp P (lift n E Q) a w) ∧
      (sc = true → ∀ c0, (∀ l, spineLab c = some l → findLabel c0 l = findLabel c l) → (∀ l ρ w, ¬ Q (.goto l) ρ w) → SP P c0 (lift n E Q) c a w) :=
    fun c Q a w sc h => ⟨fun _ => h, fun _ c0 _ hQ => SP_of_wp (fun l a w ⟨ρ, _, hq⟩ => hQ l ρ w hq) h⟩
  induction c with
  | skip => intro sc Q ρ a w ha h; exact simple _ _ _ _ _ (wp_skip ⟨ρ, ha, h⟩)
  | label l => intro sc Q ρ a w ha h; exact simple _ _ _ _ _ (wp_label ⟨ρ, ha, h⟩)
  | exit id => intro sc Q ρ a w ha h; exact simple _ _ _ _ _ (wp_exit ⟨ρ, ha, h⟩)
  | goto l => intro sc Q ρ a w ha h; exact simple _ _ _ _ _ (wp_goto ⟨ρ, ha, h⟩)
  | ret => intro sc Q ρ a w ha h; exact simple _ _ _ _ _ (wp_ret ⟨ρ, ha, h⟩)
  | region i ops d =>
    intro sc Q ρ a w ha h
    refine simple _ _ _ _ _ ?_
    unfold comp at h
    cases d with
    | false => exact wp_region_list (compR_sound _ _ _ _ _ _ ha h)
    | true =>
      simp only at h
      split at h
      · rename_i hf
        simp only [Bool.and_eq_true] at hf
        have hled : Led ops (Array.replicate ops.size false) := by
          intro r ht
          exfalso
          rcases Nat.lt_or_ge r ops.size with h1 | h1
          · simp [h1] at ht
          · simp [h1] at ht
        have fin : ∀ S : World → Prop, S w.drew → compD P n ops E (Q .normal) (tailOf P ops) ops.size (Array.replicate ops.size false) S [] ρ w.drew → (Code.region i ops true).wp P (lift n E Q) a w :=
          fun S hS h => wp_region_any hf.1 (wpAny_of_G _ _ _ _ (compD_sound hf.2 _ _ _ _ _ _ _ ha (by simp) hled (.inr hS) h))
        split at h
        · exact fin (SAME w) rfl h
        · obtain ⟨S, hS, h⟩ := h
          exact fin S hS h
      · cases h
  | seq x y ihx ihy =>
    intro sc Q ρ a w ha h
    have plain : ∀ sc', comp P n an E false x (fun e ρ w => match e with
        | .normal => comp P n an E sc' y Q ρ w
        | e => Q e ρ w) ρ w → x.wp P (lift n E (fun e ρ w => match e with
        | .normal => comp P n an E sc' y Q ρ w
        | e => Q e ρ w)) a w := fun sc' h => (ihx false _ ρ a w ha h).1 rfl
    have joined : ∀ sc' live, allIn live (dsts x) = true → joinX live (ρ.forget (dsts x)) (fun K => comp P n an E false x (fun e ρ w => match e with
        | .normal => K ρ w
        | e => Q e ρ w) ρ w) (fun ρ w => comp P n an E sc' y Q ρ w) → x.wp P (lift n E (fun e ρ w => match e with
        | .normal => ∃ σ', (∀ j v, σ' j = some v → ρ j = some v) ∧ comp P n an E sc' y Q σ' w
        | e => Q e ρ w)) a w := by
      intro sc' live hall h
      have := joinX_out hall (fun K K' hk hf => comp_keep _ _ _ _ _ _ hf fun e ρ' w' hj he => by
        cases e with
        | normal => exact hk _ _ hj he
        | _ => exact he) h
      exact (ihx false _ ρ a w ha this).1 rfl
    unfold comp at h
    split at h
    · refine simple _ _ _ _ _ ?_
      split at h
      · refine wp_seq (wp_mono (plain _ h) fun e a' w' hq => ?_)
        cases e with
        | normal => obtain ⟨ρ', ha', hq⟩ := hq; exact (ihy false _ _ _ _ ha' hq).1 rfl
        | _ => exact hq
      · split at h
        · cases h
        · rename_i hall
          refine wp_seq (wp_mono (joined _ _ hall h) fun e a' w' hq => ?_)
          cases e with
          | normal => obtain ⟨ρ', ha', σ', hl, hq⟩ := hq; exact (ihy false _ _ _ _ (ha'.less hl) hq).1 rfl
          | _ => exact hq
    · refine ⟨fun hf => (by cases hf), fun _ c0 hl hQ => ?_⟩
      have hQ' : ∀ l a w, ¬ lift n E Q (.goto l) a w := fun l a w ⟨ρ, _, hq⟩ => hQ l ρ w hq
      split at h
      · rename_i hx
        split at h
        · cases h
        · rename_i hall
          cases x with
          | label l =>
            simp only at hx
            have hfl : findLabel c0 l = some (.seq .skip y) := by
              rw [hl l (by simp [spineLab, hx])]
              simp [findLabel]
            have hh : ∀ l', Nat.beq (1000 + l') (headNo (.label l)) = true ↔ l' = l := by
              intro l'
              constructor
              · intro h; have := Nat.eq_of_beq_eq_true h; simp only [headNo] at this; omega
              · rintro rfl; simp [headNo]
            obtain ⟨J, μ, h0, pass⟩ := loop_sound (P := P) (c := y) ha hall (body := fun ρ w next => comp P n an E false y (fun e ρ w => match e with
                | .goto l' => match Nat.beq (1000 + l') (headNo (.label l)) with
                  | true => next ρ w
                  | false => False
                | e => Q e ρ w) ρ w)
              (fun σ w K K' hk hb => comp_keep _ _ _ _ _ _ hb fun e ρ' w' _ he => by
                cases e with
                | goto l' =>
                  simp only at he ⊢
                  split
                  · rename_i hb'; rw [hb'] at he; exact hk _ _ he
                  · rename_i hb'; rw [hb'] at he; exact he
                | _ => exact he) h
              (fun σ w K hb => comp_keep _ _ _ _ _ _ hb fun e ρ' w' hj he => by
                cases e with
                | goto l' =>
                  simp only at he ⊢
                  split
                  · rename_i hb'; rw [hb'] at he; exact ⟨he, hj⟩
                  · rename_i hb'; rw [hb'] at he; exact he
                | _ => exact he)
              (fun J => Exit.jump l J (lift n E Q))
              (fun σ a w K J hσ hb hJ => wp_mono ((ihy false _ _ _ _ hσ hb).1 rfl) fun e a' w' hq => by
                cases e with
                | goto l' =>
                  obtain ⟨ρ', ha', hq⟩ := hq
                  simp only at hq
                  split at hq
                  · rename_i hb'
                    exact ⟨(hh l').1 hb', hJ _ _ ⟨ρ', ha', hq⟩⟩
                  · cases hq
                | _ => exact hq)
            exact SP_label hQ' hfl h0 pass
          | _ => simp at hx
      · split at h
        · cases h
        · rename_i hx _ hcl
          have hl2 : ∀ l, spineLab y = some l → findLabel c0 l = findLabel y l := by
            intro l hl'
            have hnl : l ∉ labs x := by
              unfold clearLab at hcl
              rw [hl'] at hcl
              simpa using hcl
            have e1 : spineLab (.seq x y) = some l := by
              unfold spineLab
              cases x with
              | label l2 =>
                simp only at hx ⊢
                rw [hx]
                exact hl'
              | _ => exact hl'
            rw [hl l e1]
            simp [findLabel, findLabel_none hnl]
          split at h
          · refine SP_seq hQ' (wp_mono (plain _ h) fun e a' w' hq => ?_)
            cases e with
            | normal =>
              obtain ⟨ρ', ha', hq⟩ := hq
              exact (ihy true _ _ _ _ ha' hq).2 rfl c0 hl2 hQ
            | _ => exact hq
          · split at h
            · cases h
            · rename_i hall
              refine SP_seq hQ' (wp_mono (joined _ _ hall h) fun e a' w' hq => ?_)
              cases e with
              | normal =>
                obtain ⟨ρ', ha', σ', hl3, hq⟩ := hq
                exact (ihy true _ _ _ _ (ha'.less hl3) hq).2 rfl c0 hl2 hQ
              | _ => exact hq
  | cond x b c ihb ihc =>
    intro sc Q ρ a w ha h
    refine simple _ _ _ _ _ ?_
    unfold comp at h
    split at h
    · rename_i v hv
      have hev := ha.ev hv
      rcases h with ⟨rfl, h⟩ | ⟨rfl, h⟩
      · exact wp_cond_true hev ((ihb false _ _ _ _ ha h).1 rfl)
      · exact wp_cond_false hev ((ihc false _ _ _ _ ha h).1 rfl)
    · cases h
  | block id c ih =>
    intro sc Q ρ a w ha h
    refine simple _ _ _ _ _ ?_
    unfold comp at h
    refine wp_block (wp_mono ((ih false _ _ _ _ ha h).1 rfl) fun e a' w' hq => ?_)
    cases e with
    | exit id' =>
      obtain ⟨ρ', ha', hq⟩ := hq
      simp only at hq
      unfold Exit.inBlock
      dsimp only
      split at hq
      · rename_i hb
        rw [if_pos (Nat.eq_of_beq_eq_true hb)]
        exact ⟨ρ', ha', hq⟩
      · rename_i hb
        rw [if_neg (fun e => by subst e; simp at hb)]
        exact ⟨ρ', ha', hq⟩
    | _ => exact hq
  | loop c ih =>
    intro sc Q ρ a w ha h
    refine simple _ _ _ _ _ ?_
    unfold comp at h
    split at h
    · cases h
    · rename_i hall
      obtain ⟨J, μ, h0, pass⟩ := loop_sound (P := P) (c := c) ha hall (body := fun ρ w next => comp P n an E false c (fun e ρ w => match e with
          | .normal => next ρ w
          | e => Q e ρ w) ρ w)
        (fun σ w K K' hk hb => comp_keep _ _ _ _ _ _ hb fun e ρ' w' _ he => by
          cases e with
          | normal => exact hk _ _ he
          | _ => exact he) h
        (fun σ w K hb => comp_keep _ _ _ _ _ _ hb fun e ρ' w' hj he => by
          cases e with
          | normal => exact ⟨he, hj⟩
          | _ => exact he)
        (fun J => Exit.then J (lift n E Q))
        (fun σ a w K J hσ hb hJ => wp_mono ((ih false _ _ _ _ hσ hb).1 rfl) fun e a' w' hq => by
          cases e with
          | normal => exact hJ _ _ hq
          | _ => exact hq)
      exact wp_loop J μ h0 pass
  | scope c ih =>
    intro sc Q ρ a w ha h
    refine simple _ _ _ _ _ ?_
    unfold comp at h
    refine scope_of_SP ?_
    have := (ih true _ _ _ _ ha h).2 rfl c (fun _ _ => rfl) (fun l ρ w h => h)
    intro b k cs
    obtain ⟨e, a', w', hq, harr⟩ := this b k cs
    refine ⟨e, a', w', ?_, harr⟩
    cases e with
    | goto l => obtain ⟨ρ', _, hq⟩ := hq; exact hq.elim
    | _ => exact hq
  | rangeFunc f ps a b => intro sc Q ρ a w ha h; exact h.elim
  | refuse s => intro sc Q ρ a w ha h; exact h.elim

end
end Go.Sx
