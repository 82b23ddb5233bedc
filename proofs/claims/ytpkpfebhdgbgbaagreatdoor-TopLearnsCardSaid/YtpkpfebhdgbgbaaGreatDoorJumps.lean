/- A scope in which the run jumps back to a label (or to one of two, the second behind the first): what holds at each label, and a measure that each pass lowers. Each piece of the code is walked once. No condition. -/
import Derived.Scope
import Derived.ScopeJumps
import Derived.WalkMore
namespace Go.Proofs.YtpkpfebhdgbgbaaGreatDoor
set_option linter.unusedVariables false

def isLabel : Code → Nat → Bool
  | .label l', l => l' == l
  | _, _ => false
/-- What stands ahead of a label, and what behind it. -/
def splitLabel (l : Nat) : Code → Option (List Code × Code)
  | .seq a b => if isLabel a l then some ([], b) else if (findLabel a l).isSome then none else (splitLabel l b).map fun p => (a :: p.1, p.2)
  | _ => none

/-- The pieces ahead of a label, one behind the other; at the label: R. -/
def wpAll (P : Program) : List Code → (Exit → Act → World → Prop) → (Act → World → Prop) → Act → World → Prop
  | [], _, R, a, w => R a w
  | p :: ps, Q, R, a, w => p.wp P (Exit.then (fun a w => wpAll P ps Q R a w) Q) a w

theorem isLabel_find {a : Code} {l : Nat} (h : isLabel a l = true) : a = .label l := by
  cases a <;> simp [isLabel] at h
  subst h; rfl

theorem findLabel_split {l : Nat} {c : Code} : ∀ {ps : List Code} {x : Code}, splitLabel l c = some (ps, x) → findLabel c l = some (.seq .skip x) := by
  induction c with
  | seq a b iha ihb =>
    intro ps x h
    unfold splitLabel at h
    by_cases h1 : isLabel a l = true
    · rw [if_pos h1] at h
      cases h
      have := isLabel_find h1
      subst this
      simp [findLabel]
    · rw [if_neg h1] at h
      by_cases h2 : (findLabel a l).isSome = true
      · rw [if_pos h2] at h; cases h
      · rw [if_neg h2] at h
        have h3 : findLabel a l = none := by simpa using h2
        cases h4 : splitLabel l b with
        | none => rw [h4] at h; cases h
        | some p =>
          rw [h4] at h
          obtain ⟨qs, y⟩ := p
          cases h
          simp [findLabel, h3, ihb h4]
  | _ => intro ps x h; simp [splitLabel] at h

theorem wp_of_all {P : Program} {l : Nat} {c : Code} {Q : Exit → Act → World → Prop} : ∀ {ps : List Code} {x : Code} {a : Act} {w : World}, splitLabel l c = some (ps, x) →
    wpAll P ps Q (fun a w => x.wp P Q a w) a w → c.wp P Q a w := by
  induction c with
  | seq a b iha ihb =>
    intro ps x a0 w0 h hw
    unfold splitLabel at h
    by_cases h1 : isLabel a l = true
    · rw [if_pos h1] at h
      cases h
      have := isLabel_find h1
      subst this
      exact wp_seq (wp_label hw)
    · rw [if_neg h1] at h
      by_cases h2 : (findLabel a l).isSome = true
      · rw [if_pos h2] at h; cases h
      · rw [if_neg h2] at h
        cases h4 : splitLabel l b with
        | none => rw [h4] at h; cases h
        | some p =>
          rw [h4] at h
          obtain ⟨qs, y⟩ := p
          cases h
          refine wp_seq (wp_mono hw ?_)
          intro e a1 w1 hq
          cases e with
          | normal => exact ihb h4 hq
          | _ => exact hq
  | _ => intro ps x a0 w0 h; simp [splitLabel] at h

theorem wpAll_mono {P : Program} {Q : Exit → Act → World → Prop} {R R' : Act → World → Prop} (hR : ∀ a w, R a w → R' a w) : ∀ {ps : List Code} {a : Act} {w : World}, wpAll P ps Q R a w → wpAll P ps Q R' a w
  | [], a, w, h => hR a w h
  | p :: ps, a, w, h => wp_mono (c := p) h fun e a1 w1 hq => by
    cases e with
    | normal => exact wpAll_mono hR hq
    | _ => exact hq

/-- As Q; by a goto to label l: J; by any other goto: no way out. -/
def jump1 (l : Nat) (J : Act → World → Prop) (Q : Exit → Act → World → Prop) : Exit → Act → World → Prop
  | .goto l', a, w => l' = l ∧ J a w
  | e, a, w => Q e a w
/-- As Q; by a goto to label l: J; to label m: K; by any other goto: no way out. -/
def jump2 (l m : Nat) (J K : Act → World → Prop) (Q : Exit → Act → World → Prop) : Exit → Act → World → Prop
  | .goto l', a, w => (l' = l ∧ J a w) ∨ (l' = m ∧ K a w)
  | e, a, w => Q e a w
def noJump (Q : Exit → Act → World → Prop) : Exit → Act → World → Prop
  | .goto _, _, _ => False
  | e, a, w => Q e a w

section
variable {P : Program} {a : Act} {w : World} {Q : Exit → Act → World → Prop}

theorem wp_skip_then {x : Code} (h : x.wp P Q a w) : (Code.seq .skip x).wp P Q a w := wp_seq (wp_skip h)

/-- ONE LABEL. 'first': the code ahead of the label; 'pass': the code from the label on. -/
theorem wp_scope_one {c X : Code} {ps : List Code} (l : Nat) (J : Act → World → Prop) (μ : Act → World → Nat) (hs : splitLabel l c = some (ps, X))
    (first : wpAll P ps (noJump Q) J a w)
    (pass : ∀ a w, J a w → X.wp P (jump1 l (fun a' w' => J a' w' ∧ μ a' w' < μ a w) Q) a w) : (Code.scope c).wp P Q a w := by
  refine wp_scope_jumps l J μ (findLabel_split hs) (wp_of_all hs ?_) (fun a w hJ => wp_mono (wp_skip_then (pass a w hJ)) ?_)
  · have key : wpAll P ps (Exit.jump l J Q) J a w := by
      have gen : ∀ {qs : List Code} {a : Act} {w : World}, wpAll P qs (noJump Q) J a w → wpAll P qs (Exit.jump l J Q) J a w := by
        intro qs
        induction qs with
        | nil => intro a w h; exact h
        | cons q qs ih =>
          intro a w h
          refine wp_mono (c := q) h fun e a1 w1 hq => ?_
          cases e with
          | normal => exact ih hq
          | goto l' => exact hq.elim
          | _ => exact hq
      exact gen first
    refine wpAll_mono (fun a w hJ => wp_mono (pass a w hJ) fun e a1 w1 hq => ?_) key
    cases e with
    | goto l' => exact ⟨hq.1, hq.2.1⟩
    | _ => exact hq
  · intro e a1 w1 hq
    cases e with
    | goto l' => exact hq
    | _ => exact hq

theorem wp_scope_two_raw {c r0 r1 : Code} (l m : Nat) (hlm : l ≠ m) (J K : Act → World → Prop) (μ ν : Act → World → Nat) (hf0 : findLabel c l = some r0) (hf1 : findLabel c m = some r1)
    (first : c.wp P (jump2 l m J K Q) a w)
    (pass0 : ∀ a w, J a w → r0.wp P (jump2 l m (fun a' w' => J a' w' ∧ μ a' w' < μ a w) K Q) a w)
    (pass1 : ∀ a w, K a w → r1.wp P (jump1 m (fun a' w' => K a' w' ∧ ν a' w' < ν a w) Q) a w) : (Code.scope c).wp P Q a w := by
  intro b k cs
  have hg0 : gotoIn l (.inScope c :: k) = some (.code r0 :: .inScope c :: k) := by simp [gotoIn, hf0]
  have hg1 : gotoIn m (.inScope c :: k) = some (.code r1 :: .inScope c :: k) := by simp [gotoIn, hf1]
  have key1 : ∀ n a w, ν a w = n → K a w → ∃ e a' w', Q e a' w' ∧ Arrives P (lone (b.at a (.code r1 :: .inScope c :: k)) cs w) b k cs e a' w' := by
    intro n
    induction n using Nat.strongRecOn with
    | _ n ih =>
      intro a w hn hJ
      obtain ⟨e, a₁, w₁, hq, harr⟩ := pass1 a w hJ b (.inScope c :: k) cs
      cases e with
      | normal => exact ⟨.normal, a₁, w₁, hq, Steps.trans harr (.one step_inScope)⟩
      | exit id => exact ⟨.exit id, a₁, w₁, hq, fun k' hk => harr k' (by simp [exitTo, hk])⟩
      | goto l' =>
        obtain ⟨rfl, hJ', hlt⟩ := hq
        obtain ⟨e₂, a₂, w₂, hq₂, harr₂⟩ := ih _ (by omega) a₁ w₁ rfl hJ'
        exact ⟨e₂, a₂, w₂, hq₂, .of_steps (harr _ hg1) harr₂⟩
      | ret => exact ⟨_, a₁, w₁, hq, harr⟩
      | panic ch => exact ⟨_, a₁, w₁, hq, harr⟩
      | outgrown => exact ⟨_, a₁, w₁, hq, harr⟩
  have key0 : ∀ n a w, μ a w = n → J a w → ∃ e a' w', Q e a' w' ∧ Arrives P (lone (b.at a (.code r0 :: .inScope c :: k)) cs w) b k cs e a' w' := by
    intro n
    induction n using Nat.strongRecOn with
    | _ n ih =>
      intro a w hn hJ
      obtain ⟨e, a₁, w₁, hq, harr⟩ := pass0 a w hJ b (.inScope c :: k) cs
      cases e with
      | normal => exact ⟨.normal, a₁, w₁, hq, Steps.trans harr (.one step_inScope)⟩
      | exit id => exact ⟨.exit id, a₁, w₁, hq, fun k' hk => harr k' (by simp [exitTo, hk])⟩
      | goto l' =>
        rcases hq with ⟨rfl, hJ', hlt⟩ | ⟨rfl, hq⟩
        · obtain ⟨e₂, a₂, w₂, hq₂, harr₂⟩ := ih _ (by omega) a₁ w₁ rfl hJ'
          exact ⟨e₂, a₂, w₂, hq₂, .of_steps (harr _ hg0) harr₂⟩
        · obtain ⟨e₂, a₂, w₂, hq₂, harr₂⟩ := key1 _ a₁ w₁ rfl hq
          exact ⟨e₂, a₂, w₂, hq₂, .of_steps (harr _ hg1) harr₂⟩
      | ret => exact ⟨_, a₁, w₁, hq, harr⟩
      | panic ch => exact ⟨_, a₁, w₁, hq, harr⟩
      | outgrown => exact ⟨_, a₁, w₁, hq, harr⟩
  obtain ⟨e, a₁, w₁, hq, harr⟩ := first b (.inScope c :: k) cs
  cases e with
  | normal => exact ⟨.normal, a₁, w₁, hq, .head step_scope (Steps.trans harr (.one step_inScope))⟩
  | exit id => exact ⟨.exit id, a₁, w₁, hq, fun k' hk => .head step_scope (harr k' (by simp [exitTo, hk]))⟩
  | goto l' =>
    rcases hq with ⟨rfl, hq⟩ | ⟨rfl, hq⟩
    · obtain ⟨e₂, a₂, w₂, hq₂, harr₂⟩ := key0 _ a₁ w₁ rfl hq
      exact ⟨e₂, a₂, w₂, hq₂, .of_steps (.head step_scope (harr _ hg0)) harr₂⟩
    · obtain ⟨e₂, a₂, w₂, hq₂, harr₂⟩ := key1 _ a₁ w₁ rfl hq
      exact ⟨e₂, a₂, w₂, hq₂, .of_steps (.head step_scope (harr _ hg1)) harr₂⟩
  | ret => exact ⟨_, a₁, w₁, hq, .of_steps (.one step_scope) harr⟩
  | panic ch => exact ⟨_, a₁, w₁, hq, .of_steps (.one step_scope) harr⟩
  | outgrown => exact ⟨_, a₁, w₁, hq, .of_steps (.one step_scope) harr⟩

theorem wpAll_weaken {Q Q' : Exit → Act → World → Prop} {R : Act → World → Prop} (hQ : ∀ e a w, Q e a w → Q' e a w) : ∀ {qs : List Code} {a : Act} {w : World}, wpAll P qs Q R a w → wpAll P qs Q' R a w
  | [], a, w, h => h
  | q :: qs, a, w, h => wp_mono (c := q) h fun e a1 w1 hq => by
    cases e with
    | normal => exact wpAll_weaken hQ hq
    | _ => exact hQ _ _ _ hq

/-- TWO LABELS, the second behind the first: the code ahead of the first; between the two; from the second on. -/
theorem wp_scope_two {c X Z : Code} {ps qs : List Code} (l m : Nat) (hlm : l ≠ m) (J K : Act → World → Prop) (μ ν : Act → World → Nat) (hs : splitLabel l c = some (ps, X)) (hs1 : splitLabel m X = some (qs, Z))
    (hf1 : findLabel c m = some (.seq .skip Z))
    (first : wpAll P ps (noJump Q) J a w)
    (mid : ∀ a w, J a w → wpAll P qs (jump1 l (fun a' w' => J a' w' ∧ μ a' w' < μ a w) Q) K a w)
    (last : ∀ a w, K a w → Z.wp P (jump1 m (fun a' w' => K a' w' ∧ ν a' w' < ν a w) Q) a w) : (Code.scope c).wp P Q a w := by
  have hmid : ∀ a w, J a w → X.wp P (jump2 l m (fun a' w' => J a' w' ∧ μ a' w' < μ a w) K Q) a w := fun a w hJ => by
    refine wp_of_all hs1 (wpAll_mono (fun a1 w1 hK => wp_mono (last a1 w1 hK) ?_) (wpAll_weaken ?_ (mid a w hJ)))
    · intro e a2 w2 hq
      cases e with
      | goto l' => exact .inr ⟨hq.1, hq.2.1⟩
      | _ => exact hq
    · intro e a2 w2 hq
      cases e with
      | goto l' => exact .inl hq
      | _ => exact hq
  refine wp_scope_two_raw l m hlm J K μ ν (findLabel_split hs) hf1 (wp_of_all hs ?_) (fun a w hJ => wp_skip_then (hmid a w hJ)) (fun a w hK => wp_skip_then (last a w hK))
  refine wpAll_mono (fun a1 w1 hJ => wp_mono (hmid a1 w1 hJ) ?_) (wpAll_weaken ?_ first)
  · intro e a2 w2 hq
    cases e with
    | goto l' =>
      rcases hq with hq | hq
      · exact .inl ⟨hq.1, hq.2.1⟩
      · exact .inr hq
    | _ => exact hq
  · intro e a2 w2 hq
    cases e with
    | goto l' => exact hq.elim
    | _ => exact hq
end

end Go.Proofs.YtpkpfebhdgbgbaaGreatDoor
