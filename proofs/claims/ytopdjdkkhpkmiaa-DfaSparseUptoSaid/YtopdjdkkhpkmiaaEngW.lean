import Derived.Test.YtopdjdkkhpkmiaaEngV
set_option linter.unusedVariables false
set_option linter.unusedSimpArgs false
namespace Go.Sx
open Go

/-- Slots that a list of operations of a region may turn. -/
def opsDst (ops : Array Oper) : List Oper → List Nat
  | [] => []
  | o :: l => o.dst.toList ++ (guardDst ops o).toList ++ opsDst ops l

theorem compR_mono {P : Program} {n : Nat} {ops : Array Oper} {E : List PanicEntry → World → Prop} {Q Q' : Env → World → Prop} :
    ∀ (l : List Oper) (i : Nat) (dec : List Nat) (ρ : Env) (w : World), compR P n ops E Q i l dec ρ w →
      (∀ ρ' w', (∀ j, j ∉ opsDst ops l → ρ' j = ρ j) → Q ρ' w' → Q' ρ' w') → compR P n ops E Q' i l dec ρ w
  | [], _, _, ρ, w, hc, hk => hk _ _ (fun _ _ => rfl) hc
  | o :: l, i, dec, ρ, w, hc, hk => by
    unfold compR at hc ⊢
    refine guardX_mono hc fun b dec' ρ' h1 hgo => ?_
    cases b with
    | true =>
      refine stepX_mono hgo fun ρ'' w' h2 h3 => ?_
      refine compR_mono l _ _ _ _ h3 fun ρ3 w3 h4 => hk _ _ fun j hj => ?_
      simp only [opsDst, List.mem_append, Option.mem_toList, not_or] at hj
      rw [h4 j hj.2, h2 j hj.1.1, h1 j hj.1.2]
    | false =>
      simp only at hgo ⊢
      split
      · rename_i hd
        rw [hd] at hgo
        refine compR_mono l _ _ _ _ hgo fun ρ3 w3 h4 => hk _ _ fun j hj => ?_
        simp only [opsDst, List.mem_append, Option.mem_toList, not_or] at hj
        rw [h4 j hj.2, put_other hj.1.1, h1 j hj.1.2]
      · rename_i hd
        rw [hd] at hgo
        exact hgo

theorem mem_opsDst {ops : Array Oper} {i : Nat} {o : Oper} (ho : ops[i]? = some o) {j : Nat} (h : j ∉ opsDst ops ops.toList) : o.dst ≠ some j ∧ guardDst ops o ≠ some j := by
  have hm : o ∈ ops.toList := by
    have := Array.mem_of_getElem? ho
    simpa using this
  have key : ∀ l : List Oper, o ∈ l → j ∉ opsDst ops l → o.dst ≠ some j ∧ guardDst ops o ≠ some j := by
    intro l
    induction l with
    | nil => intro h _; cases h
    | cons x l ih =>
      intro hx hj
      simp only [opsDst, List.mem_append, Option.mem_toList, not_or] at hj
      rcases List.mem_cons.1 hx with rfl | hx
      · exact hj.1
      · exact ih hx hj.2
  exact key _ hm h

theorem compD_mono {P : Program} {n : Nat} {ops : Array Oper} {E : List PanicEntry → World → Prop} {Q Q' : Env → World → Prop} {tl : Nat} :
    ∀ (f : Nat) (listed : Array Bool) (S : World → Prop) (dec : List Nat) (ρ : Env) (w : World), compD P n ops E Q tl f listed S dec ρ w →
      (∀ ρ' w', (∀ j, j ∉ opsDst ops ops.toList → ρ' j = ρ j) → Q ρ' w' → Q' ρ' w') → compD P n ops E Q' tl f listed S dec ρ w := by
  intro f
  induction f with
  | zero =>
    intro listed S dec ρ w hc hk
    unfold compD at hc ⊢
    split at hc
    · exact hk _ _ (fun _ _ => rfl) hc
    · cases hc
  | succ f ih =>
    intro listed S dec ρ w hc hk
    unfold compD at hc ⊢
    split at hc
    · exact hk _ _ (fun _ _ => rfl) hc
    · split at hc
      · split at hc
        · cases hc
        · rename_i o ho
          refine guardX_mono hc fun b dec' ρ' h1 hgo => ?_
          cases b with
          | true =>
            refine stepQ_mono hgo fun ρ'' h2 h3 => ?_
            refine ih _ _ _ _ _ h3 fun ρ3 w3 h4 => hk _ _ fun j hj => ?_
            rw [h4 j hj, h2 j (mem_opsDst ho hj).1, h1 j (mem_opsDst ho hj).2]
          | false =>
            simp only at hgo ⊢
            split
            · rename_i hd
              rw [hd] at hgo
              refine ih _ _ _ _ _ hgo fun ρ3 w3 h4 => hk _ _ fun j hj => ?_
              rw [h4 j hj, put_other (mem_opsDst ho hj).1, h1 j (mem_opsDst ho hj).2]
            · rename_i hd
              rw [hd] at hgo
              exact hgo
      · refine allP_mono hc fun i hc => ?_
        split at hc
        · cases hc
        · rename_i o ho
          refine guardX_mono hc fun b dec' ρ' h1 hgo => ?_
          cases b with
          | true =>
            refine stepX_mono hgo fun ρ'' w' h2 h3 => ?_
            unfold keeps at h3 ⊢
            split at h3
            · refine ih _ _ _ _ _ h3 fun ρ3 w3 h4 => hk _ _ fun j hj => ?_
              rw [h4 j hj, h2 j (mem_opsDst ho hj).1, h1 j (mem_opsDst ho hj).2]
            · obtain ⟨S', hs1, hs2, h3⟩ := h3
              refine ⟨S', hs1, hs2, ?_⟩
              refine ih _ _ _ _ _ h3 fun ρ3 w3 h4 => hk _ _ fun j hj => ?_
              rw [h4 j hj, h2 j (mem_opsDst ho hj).1, h1 j (mem_opsDst ho hj).2]
          | false =>
            simp only at hgo ⊢
            split
            · rename_i hd
              rw [hd] at hgo
              refine ih _ _ _ _ _ hgo fun ρ3 w3 h4 => hk _ _ fun j hj => ?_
              rw [h4 j hj, put_other (mem_opsDst ho hj).1, h1 j (mem_opsDst ho hj).2]
            · rename_i hd
              rw [hd] at hgo
              exact hgo

theorem dstsOps_mem {l : List Oper} {j : Nat} (h : j ∉ dstsOps l) {o : Oper} (ho : o ∈ l) : o.dst ≠ some j := by
  induction l with
  | nil => cases ho
  | cons x l ih =>
    unfold dstsOps at h
    rcases List.mem_cons.1 ho with rfl | ho
    · intro e
      rw [e] at h
      simp at h
    · split at h
      · simp only [List.mem_cons, not_or] at h
        exact ih h.2 ho
      · exact ih h ho

theorem region_dsts {i : Nat} {ops : Array Oper} {d : Bool} {j : Nat} (h : j ∉ dsts (.region i ops d)) : j ∉ opsDst ops ops.toList := by
  simp only [dsts, List.mem_append, not_or] at h
  have key : ∀ l : List Oper, (∀ o ∈ l, o ∈ ops.toList) → j ∉ opsDst ops l := by
    intro l
    induction l with
    | nil => intro _ h; cases h
    | cons x l ih =>
      intro hx hj
      simp only [opsDst, List.mem_append, Option.mem_toList] at hj
      rcases hj with (hj | hj) | hj
      · exact dstsOps_mem h.1 (hx x (by simp)) hj
      · refine h.2 (List.mem_filterMap.2 ⟨x, hx x (by simp), hj⟩)
      · exact ih (fun o ho => hx o (by simp [ho])) hj
  exact key _ fun _ h => h

/-! ### Loops -/
theorem loopX_mono {live : List Nat} {ρ ρm : Env} {w : World} {body body' : Env → World → (Env → World → Prop) → Prop}
    (h : loopX live ρ ρm w body) (hb : ∀ ρ' w' K, (∀ j, j ∉ live → ρ' j = ρm j) → body ρ' w' K → body' ρ' w' K) : loopX live ρ ρm w body' := by
  have so : ∀ (σ : Env) (a : Nat) (v : Option Value) (j : Nat), j ≠ a → (σ.set a v) j = σ j := fun _ _ _ _ => set_other
  unfold loopX at h ⊢
  split at h
  · obtain ⟨I, μ, h0, hs⟩ := h
    exact ⟨I, μ, h0, fun w hI => hb _ _ _ (fun _ _ => rfl) (hs w hI)⟩
  · split at h
    · obtain ⟨I, μ, h0, hs⟩ := h
      exact ⟨I, μ, h0, fun x w hI => hb _ _ _ (fun j hj => by simp at hj; simp [so, hj]) (hs x w hI)⟩
    · cases h
  · split at h
    · obtain ⟨I, μ, h0, hs⟩ := h
      exact ⟨I, μ, h0, fun x y w hI => hb _ _ _ (fun j hj => by simp at hj; simp [so, hj]) (hs x y w hI)⟩
    · cases h
  · split at h
    · obtain ⟨I, μ, h0, hs⟩ := h
      exact ⟨I, μ, h0, fun x y z w hI => hb _ _ _ (fun j hj => by simp at hj; simp [so, hj]) (hs x y z w hI)⟩
    · cases h
  · split at h
    · obtain ⟨I, μ, h0, hs⟩ := h
      exact ⟨I, μ, h0, fun x y z u w hI => hb _ _ _ (fun j hj => by simp at hj; simp [so, hj]) (hs x y z u w hI)⟩
    · cases h
  · split at h
    · obtain ⟨I, μ, h0, hs⟩ := h
      exact ⟨I, μ, h0, fun x y z u t w hI => hb _ _ _ (fun j hj => by simp at hj; simp [so, hj]) (hs x y z u t w hI)⟩
    · cases h
  · cases h

theorem allIn_mem {l ms : List Nat} (h : allIn l ms = true) : ∀ a ∈ l, a ∈ ms := by
  induction l with
  | nil => intro a ha; cases ha
  | cons x l ih =>
    unfold allIn at h
    split at h
    · rename_i he
      intro a ha
      rcases List.mem_cons.1 ha with rfl | ha
      · simp only [Bool.and_eq_true] at he; simpa using he.1
      · exact ih h a ha
    · cases h

theorem allIn_nodup {l ms : List Nat} (h : allIn l ms = true) : l.Nodup := by
  induction l with
  | nil => simp
  | cons x l ih =>
    unfold allIn at h
    split at h
    · rename_i he
      simp only [Bool.and_eq_true, Bool.not_eq_true'] at he
      exact List.nodup_cons.2 ⟨by simpa using he.2, ih h⟩
    · cases h

theorem forget_other {ρ : Env} {l : List Nat} {j : Nat} (h : j ∉ l) : (ρ.forget l) j = ρ j := by
  unfold Env.forget
  have : l.elem j = false := by simpa using h
  rw [this]

theorem forget_in {ρ : Env} {l : List Nat} {j : Nat} (h : j ∈ l) : (ρ.forget l) j = none := by
  unfold Env.forget
  have : l.elem j = true := by simpa using h
  rw [this]

theorem joinX_mono {live : List Nat} {ρm : Env} {first first' : (Env → World → Prop) → Prop} {rest rest' : Env → World → Prop} (h : joinX live ρm first rest)
    (h1 : ∀ K, first K → first' K) (h2 : ∀ ρ w, (∀ j, j ∉ live → ρ j = ρm j) → rest ρ w → rest' ρ w) : joinX live ρm first' rest' := by
  have so : ∀ (σ : Env) (a : Nat) (v : Option Value) (j : Nat), j ≠ a → (σ.set a v) j = σ j := fun _ _ _ _ => set_other
  unfold joinX at h ⊢
  split at h
  · obtain ⟨J, hf, hr⟩ := h
    exact ⟨J, h1 _ hf, fun w hJ => h2 _ _ (fun _ _ => rfl) (hr w hJ)⟩
  · obtain ⟨J, hf, hr⟩ := h
    exact ⟨J, h1 _ hf, fun x w hJ => h2 _ _ (fun j hj => by simp at hj; simp [so, hj]) (hr x w hJ)⟩
  · obtain ⟨J, hf, hr⟩ := h
    exact ⟨J, h1 _ hf, fun x y w hJ => h2 _ _ (fun j hj => by simp at hj; simp [so, hj]) (hr x y w hJ)⟩
  · obtain ⟨J, hf, hr⟩ := h
    exact ⟨J, h1 _ hf, fun x y z w hJ => h2 _ _ (fun j hj => by simp at hj; simp [so, hj]) (hr x y z w hJ)⟩
  · cases h

/-- What comes of code, where more is said, and of what is kept. -/
theorem comp_keep {P : Program} {n : Nat} {an : List (Nat × List Nat)} {E : List PanicEntry → World → Prop} :
    ∀ (c : Code) (sc : Bool) (Q Q' : Exit → Env → World → Prop) (ρ : Env) (w : World), comp P n an E sc c Q ρ w →
      (∀ e ρ' w', (∀ j, j ∉ dsts c → ρ' j = ρ j) → Q e ρ' w' → Q' e ρ' w') → comp P n an E sc c Q' ρ w := by
  intro c
  induction c with
  | skip => intro sc Q Q' ρ w h hk; exact hk _ _ _ (fun _ _ => rfl) h
  | label l => intro sc Q Q' ρ w h hk; exact hk _ _ _ (fun _ _ => rfl) h
  | exit id => intro sc Q Q' ρ w h hk; exact hk _ _ _ (fun _ _ => rfl) h
  | goto l => intro sc Q Q' ρ w h hk; exact hk _ _ _ (fun _ _ => rfl) h
  | ret => intro sc Q Q' ρ w h hk; exact hk _ _ _ (fun _ _ => rfl) h
  | region i ops d =>
    intro sc Q Q' ρ w h hk
    unfold comp at h ⊢
    cases d with
    | false => exact compR_mono _ _ _ _ _ h fun ρ' w' hj => hk _ _ _ fun j hj' => hj j (region_dsts hj')
    | true =>
      simp only at h ⊢
      split
      · rename_i hf
        rw [hf] at h
        simp only at h ⊢
        split
        · rename_i hc
          rw [hc] at h
          exact compD_mono _ _ _ _ _ _ h fun ρ' w' hj => hk _ _ _ fun j hj' => hj j (region_dsts hj')
        · rename_i hc
          rw [hc] at h
          obtain ⟨S, hS, h⟩ := h
          exact ⟨S, hS, compD_mono _ _ _ _ _ _ h fun ρ' w' hj => hk _ _ _ fun j hj' => hj j (region_dsts hj')⟩
      · rename_i hf
        rw [hf] at h
        exact h
  | seq x y ihx ihy =>
    intro sc Q Q' ρ w h hk
    have plain : ∀ sc', comp P n an E false x (fun e ρ w => match e with
        | .normal => comp P n an E sc' y Q ρ w
        | e => Q e ρ w) ρ w → comp P n an E false x (fun e ρ w => match e with
        | .normal => comp P n an E sc' y Q' ρ w
        | e => Q' e ρ w) ρ w := by
      intro sc' h
      refine ihx false _ _ ρ w h fun e ρ' w' hj he => ?_
      have hx : ∀ j, j ∉ dsts (.seq x y) → ρ' j = ρ j := fun j hj' => hj j (by simp only [dsts, List.mem_append, not_or] at hj'; exact hj'.1)
      cases e with
      | normal =>
        refine ihy sc' _ _ ρ' w' he fun e ρ3 w3 hj3 => hk e _ _ fun j hj' => ?_
        rw [hj3 j (by simp only [dsts, List.mem_append, not_or] at hj'; exact hj'.2), hx j hj']
      | _ => exact hk _ _ _ hx he
    have joined : ∀ sc' live, allIn live (dsts x) = true → joinX live (ρ.forget (dsts x)) (fun K => comp P n an E false x (fun e ρ w => match e with
        | .normal => K ρ w
        | e => Q e ρ w) ρ w) (fun ρ w => comp P n an E sc' y Q ρ w) → joinX live (ρ.forget (dsts x)) (fun K => comp P n an E false x (fun e ρ w => match e with
        | .normal => K ρ w
        | e => Q' e ρ w) ρ w) (fun ρ w => comp P n an E sc' y Q' ρ w) := by
      intro sc' live hall h
      refine joinX_mono h (fun K hf => ihx false _ _ ρ w hf fun e ρ' w' hj he => ?_) (fun ρ' w' hj hr => ihy sc' _ _ ρ' w' hr fun e ρ3 w3 hj3 => hk e _ _ fun j hj' => ?_)
      · cases e with
        | normal => exact he
        | _ => exact hk _ _ _ (fun j hj' => hj j (by simp only [dsts, List.mem_append, not_or] at hj'; exact hj'.1)) he
      · simp only [dsts, List.mem_append, not_or] at hj'
        rw [hj3 j hj'.2, hj j (fun hm => hj'.1 (allIn_mem hall j hm)), forget_other hj'.1]
    unfold comp at h ⊢
    split at h
    · split at h
      · exact plain _ h
      · split at h
        · cases h
        · rename_i hall
          exact joined _ _ hall h
    · split at h
      · split at h
        · cases h
        · rename_i hall
          refine loopX_mono h fun ρ' w' K hρ' hbody => ?_
          refine ihy false _ _ ρ' w' hbody fun e ρ3 w3 hj3 he => ?_
          have hx : ∀ j, j ∉ dsts (.seq x y) → ρ3 j = ρ j := fun j hj' => by
            have hy : j ∉ dsts y := by simp only [dsts, List.mem_append, not_or] at hj'; exact hj'.2
            rw [hj3 j hy, hρ' j (fun hm => hy (allIn_mem hall j hm)), forget_other hy]
          cases e with
          | goto l' => exact he
          | _ => exact hk _ _ _ hx he
      · split at h
        · cases h
        · split at h
          · exact plain _ h
          · split at h
            · cases h
            · rename_i hall
              exact joined _ _ hall h
  | cond x a b iha ihb =>
    intro sc Q Q' ρ w h hk
    unfold comp at h ⊢
    split at h
    · rcases h with ⟨e, h⟩ | ⟨e, h⟩
      · exact .inl ⟨e, iha false _ _ _ _ h fun e ρ' w' hj => hk e _ _ fun j hj' => hj j (by simp only [dsts, List.mem_append, not_or] at hj'; exact hj'.1)⟩
      · exact .inr ⟨e, ihb false _ _ _ _ h fun e ρ' w' hj => hk e _ _ fun j hj' => hj j (by simp only [dsts, List.mem_append, not_or] at hj'; exact hj'.2)⟩
    · cases h
  | block id c ih =>
    intro sc Q Q' ρ w h hk
    unfold comp at h ⊢
    refine ih false _ _ _ _ h fun e ρ' w' hj he => ?_
    cases e with
    | exit id' =>
      simp only at he ⊢
      split
      · rename_i hb; rw [hb] at he; exact hk _ _ _ hj he
      · rename_i hb; rw [hb] at he; exact hk _ _ _ hj he
    | _ => exact hk _ _ _ hj he
  | loop c ih =>
    intro sc Q Q' ρ w h hk
    unfold comp at h ⊢
    split at h
    · cases h
    · rename_i hall
      refine loopX_mono h fun ρ' w' K hρ' hbody => ?_
      refine ih false _ _ ρ' w' hbody fun e ρ3 w3 hj3 he => ?_
      have hx : ∀ j, j ∉ dsts (.loop c) → ρ3 j = ρ j := fun j hj' => by
        have hy : j ∉ dsts c := by simpa [dsts] using hj'
        rw [hj3 j hy, hρ' j (fun hm => hy (allIn_mem hall j hm)), forget_other hy]
      cases e with
      | normal => exact he
      | _ => exact hk _ _ _ hx he
  | scope c ih =>
    intro sc Q Q' ρ w h hk
    unfold comp at h ⊢
    refine ih true _ _ _ _ h fun e ρ' w' hj he => ?_
    cases e with
    | goto l => exact he
    | _ => exact hk _ _ _ hj he
  | rangeFunc f ps a b => intro sc Q Q' ρ w h hk; exact h.elim
  | refuse s => intro sc Q Q' ρ w h hk; exact h.elim

end Go.Sx
