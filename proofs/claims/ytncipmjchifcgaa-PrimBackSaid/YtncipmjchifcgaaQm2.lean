/- Plain laws: changes that undo one another. -/
import Derived.Test.YtncipmjchifcgaaQm1
set_option linter.unusedVariables false
namespace Go.Qm
open Go.RowKit Go.Vam
set_option linter.unusedSimpArgs false

theorem hunkEq_iff {a b : Hunk} : hunkEq a b = true ↔ a = b := by
  obtain ⟨a1, a2, a3⟩ := a
  obtain ⟨b1, b2, b3⟩ := b
  unfold hunkEq
  rw [Bool.and_eq_true, Bool.and_eq_true, strsEq_iff, strsEq_iff]
  simp only [beq_iff_eq, Hunk.mk.injEq, and_assoc]
theorem primEq_iff {a b : Prim} : primEq a b = true ↔ a = b := by
  obtain ⟨a1, a2, a3, a4⟩ := a
  obtain ⟨b1, b2, b3, b4⟩ := b
  unfold primEq
  rw [Bool.and_eq_true, Bool.and_eq_true, Bool.and_eq_true, hunkEq_iff]
  simp only [beq_iff_eq, decide_eq_true_eq, Prim.mk.injEq, and_assoc]
theorem primEq_refl (a : Prim) : primEq a a = true := primEq_iff.2 rfl
theorem snoc_ind {α : Type} {M : List α → Prop} (h0 : M []) (h1 : ∀ l x, M l → M (l ++ [x])) (l : List α) : M l := by
  rw [← l.reverse_reverse]
  induction l.reverse with
  | nil => exact h0
  | cons x l ih => rw [List.reverse_cons]; exact h1 _ _ ih
theorem all2_primEq : ∀ {a b : List Prim}, all2 primEq a b = true ↔ a = b
  | [], [] => by simp [all2]
  | x :: l, y :: m => by
    simp only [all2, Bool.and_eq_true, primEq_iff, List.cons.injEq]
    rw [all2_primEq]
  | [], _ :: _ => by simp [all2]
  | _ :: _, [] => by simp [all2]
theorem all2_refl (a : List Prim) : all2 primEq a a = true := all2_primEq.2 rfl

theorem idle_turn (p : Prim) : idleP (turnP p) = idleP p := by
  unfold idleP turnP
  by_cases h0 : p.kind = 0
  · simp [h0]
  · by_cases h1 : p.kind = 1
    · simp [h1]
    · by_cases h2 : p.kind = 2
      · simp [h2]
      · simp only [h0, h1, h2, if_false, turnH]
        congr 1
        rw [Bool.eq_iff_iff, strsEq_iff, strsEq_iff]
        exact eq_comm
abbrev tidyF (s l : List Prim) : List Prim := l.foldl tidyStep s
theorem tidyF_app (s a b : List Prim) : tidyF s (a ++ b) = tidyF (tidyF s a) b := List.foldl_append
theorem undoes_iff {a b : Prim} : undoes a b = true ↔ b = turnP a := primEq_iff
theorem undoes_no {a b : Prim} (h : undoes a b = false) : b ≠ turnP a := fun e => by
  rw [undoes_iff.2 e] at h
  simp at h

/-- One's last one is not undone by the next. -/
def Chain (s : List Prim) : Prop := tightL s = true
theorem chain_nil : Chain [] := by simp [Chain, tightL]
theorem chain_snoc {s : List Prim} {p : Prim} : Chain (s ++ [p]) ↔ Chain s ∧ idleP p = false ∧ ∀ q, s.getLast? = some q → p ≠ turnP q := by
  unfold Chain
  rw [tight_iff, tight_iff]
  constructor
  · intro h
    refine ⟨fun i hi => ?_, ?_, fun q hq => ?_⟩
    · have := h i (by simp; omega)
      refine ⟨by simpa [List.getElem_append_left hi] using this.1, fun h0 => ?_⟩
      have h2 := this.2 h0
      rw [List.getElem_append_left (by omega), List.getElem_append_left hi] at h2
      exact h2
    · have := (h s.length (by simp)).1
      simpa using this
    · rw [List.getLast?_eq_getElem?] at hq
      obtain ⟨hl, he⟩ := List.getElem?_eq_some_iff.1 hq
      have h2 := (h s.length (by simp)).2 (by omega)
      rw [List.getElem_append_left (by omega), List.getElem_append_right (by omega)] at h2
      simp only [Nat.sub_self, List.getElem_cons_zero] at h2
      rw [he] at h2
      exact undoes_no h2
  · rintro ⟨h1, h2, h3⟩ i hi
    by_cases his : i < s.length
    · have := h1 i his
      refine ⟨by simpa [List.getElem_append_left his] using this.1, fun h0 => ?_⟩
      rw [List.getElem_append_left (by omega), List.getElem_append_left his]
      exact this.2 h0
    · have hie : i = s.length := by simp at hi; omega
      subst hie
      refine ⟨by simpa using h2, fun h0 => ?_⟩
      rw [List.getElem_append_left (by omega), List.getElem_append_right (by omega)]
      simp only [Nat.sub_self, List.getElem_cons_zero]
      cases hu : undoes s[s.length - 1] p with
      | false => rfl
      | true => exact absurd (undoes_iff.1 hu) (h3 _ (by rw [List.getLast?_eq_getElem?, List.getElem?_eq_getElem (by omega)]))
/-- The three ways of one step. -/
theorem step_cases (s : List Prim) (p : Prim) : (idleP p = true ∧ tidyStep s p = s) ∨ (idleP p = false ∧ ∃ t q, s = t ++ [q] ∧ p = turnP q ∧ tidyStep s p = t) ∨
    (idleP p = false ∧ (∀ q, s.getLast? = some q → p ≠ turnP q) ∧ tidyStep s p = s ++ [p]) := by
  unfold tidyStep
  cases hi : idleP p with
  | true => exact .inl ⟨rfl, by simp⟩
  | false =>
    refine .inr ?_
    simp only [Bool.false_eq_true, if_false]
    cases hl : s.getLast? with
    | none => exact .inr ⟨by trivial, by simp, rfl⟩
    | some q =>
      simp only
      split
      · rename_i h
        obtain ⟨t, ht⟩ := List.getLast?_eq_some_iff.1 hl
        exact .inl ⟨by trivial, t, q, ht, primEq_iff.1 h, by rw [ht]; simp⟩
      · rename_i h
        exact .inr ⟨by trivial, fun q' hq' e => h (primEq_iff.2 (by simp only [Option.some.injEq] at hq'; rw [hq']; exact e)), rfl⟩
theorem step_push {s : List Prim} {p : Prim} (h1 : idleP p = false) (h2 : ∀ q, s.getLast? = some q → p ≠ turnP q) : tidyStep s p = s ++ [p] := by
  rcases step_cases s p with ⟨h, _⟩ | ⟨_, t, q, rfl, h, _⟩ | ⟨_, _, h⟩
  · rw [h] at h1; simp at h1
  · exact absurd h (h2 q (by simp))
  · exact h
theorem step_pop {t : List Prim} {p : Prim} (h1 : idleP p = false) : tidyStep (t ++ [p]) (turnP p) = t := by
  rcases step_cases (t ++ [p]) (turnP p) with ⟨h, _⟩ | ⟨_, t', q, h0, h, h2⟩ | ⟨_, h, _⟩
  · rw [idle_turn, h1] at h; simp at h
  · have := List.append_inj' h0 rfl
    rw [h2]; exact this.1.symm
  · exact absurd rfl (h p (by simp))
theorem step_chain {s : List Prim} (h : Chain s) (p : Prim) : Chain (tidyStep s p) := by
  rcases step_cases s p with ⟨_, e⟩ | ⟨_, t, q, rfl, _, e⟩ | ⟨h1, h2, e⟩
  · rw [e]; exact h
  · rw [e]; exact (chain_snoc.1 h).1
  · rw [e]; exact chain_snoc.2 ⟨h, h1, h2⟩
theorem tidyF_chain {s : List Prim} (h : Chain s) (l : List Prim) : Chain (tidyF s l) := by
  induction l generalizing s with
  | nil => exact h
  | cons p l ih => exact ih (step_chain h p)
/-- A change, and what undoes it. -/
theorem step_back {s : List Prim} (h : Chain s) (p : Prim) : tidyStep (tidyStep s p) (turnP p) = s := by
  rcases step_cases s p with ⟨h1, e⟩ | ⟨h1, t, q, rfl, rfl, e⟩ | ⟨h1, h2, e⟩
  · rw [e]
    unfold tidyStep
    rw [if_pos (by rw [idle_turn]; exact h1)]
  · rw [e, turnP_turnP]
    obtain ⟨_, g1, g2⟩ := chain_snoc.1 h
    exact step_push g1 g2
  · rw [e]
    exact step_pop h1
abbrev turnL (l : List Prim) : List Prim := l.reverse.map turnP
theorem tidyF_back (l : List Prim) {s : List Prim} (h : Chain s) : tidyF s (l ++ turnL l) = s := by
  induction l generalizing s with
  | nil => rfl
  | cons p l ih =>
    have e : (p :: l) ++ turnL (p :: l) = [p] ++ ((l ++ turnL l) ++ [turnP p]) := by simp [turnL]
    rw [e, tidyF_app, tidyF_app, ih (tidyF_chain h [p])]
    exact step_back h p
theorem chain_pre {u t : List Prim} : Chain (u ++ t) → Chain u := by
  induction t using snoc_ind with
  | h0 => simp
  | h1 t x ih => intro h; rw [← List.append_assoc] at h; exact ih (chain_snoc.1 h).1
theorem tidyF_tight {s : List Prim} : ∀ {t : List Prim}, Chain (s ++ t) → tidyF s t = s ++ t := fun {t} => by
  induction t generalizing s with
  | nil => intro _; simp [tidyF]
  | cons p t ih =>
    intro h
    have h' : Chain ((s ++ [p]) ++ t) := by simpa using h
    have hs : Chain (s ++ [p]) := chain_pre h'
    obtain ⟨_, g1, g2⟩ := chain_snoc.1 hs
    show tidyF (tidyStep s p) t = _
    rw [step_push g1 g2, ih h']
    simp
theorem tidyL_tight {l : List Prim} (h : Chain l) : tidyL l = l := tidyF_tight (s := []) h
theorem tidyL_chain (l : List Prim) : Chain (tidyL l) := tidyF_chain chain_nil l
theorem tidyF_len (l s : List Prim) : (tidyF s l).length ≤ s.length + l.length := by
  induction l generalizing s with
  | nil => simp [tidyF]
  | cons p l ih =>
    have h1 := ih (tidyStep s p)
    have h2 := tidyStep_len s p
    simp only [List.length_cons]
    show (tidyF (tidyStep s p) l).length ≤ _
    omega
theorem tidyF_full : ∀ {l s : List Prim}, (tidyF s l).length = s.length + l.length → tidyF s l = s ++ l := fun {l} => by
  induction l with
  | nil => intro s _; simp [tidyF]
  | cons p l ih =>
    intro s h
    have h1 : (tidyF (tidyStep s p) l).length = s.length + (l.length + 1) := h
    have h2 := tidyF_len l (tidyStep s p)
    show tidyF (tidyStep s p) l = _
    have hp : tidyStep s p = s ++ [p] := by
      rcases step_cases s p with ⟨_, e⟩ | ⟨_, t, q, rfl, _, e⟩ | ⟨_, _, e⟩
      · rw [e] at h2 h1; omega
      · rw [e] at h2 h1; simp only [List.length_append, List.length_cons, List.length_nil] at h1; omega
      · exact e
    rw [hp] at h1 ⊢
    rw [ih (by rw [h1]; simp; omega)]
    simp
/-- **Tight is what tidying leaves as it is.** -/
theorem tight_len (l : List Prim) : decide ((tidyL l).length = l.length) = tightL l := by
  rw [Bool.eq_iff_iff, decide_eq_true_eq]
  constructor
  · intro h
    have e : tidyL l = l := tidyF_full (s := []) (by show (tidyL l).length = _; simpa using h)
    have := tidyL_chain l
    rwa [e] at this
  · intro h
    rw [tidyL_tight h]
theorem tidy_none (l : List Prim) : tidyL (l ++ turnL l) = [] := tidyF_back l chain_nil
theorem tidyF_fold (b : List Prim) {s : List Prim} (h : Chain s) : tidyF s (tidyL b) = tidyF s b := by
  induction b using snoc_ind with
  | h0 => rfl
  | h1 b p ih =>
    have e1 : tidyL (b ++ [p]) = tidyStep (tidyL b) p := by simp [tidyL]
    have e2 : tidyF s (b ++ [p]) = tidyStep (tidyF s b) p := by simp [tidyF]
    rw [e1, e2, ← ih]
    rcases step_cases (tidyL b) p with ⟨g1, e⟩ | ⟨g1, t, q, ht, rfl, e⟩ | ⟨g1, g2, e⟩
    · rw [e]
      unfold tidyStep
      rw [if_pos g1]
    · rw [e, ht, tidyF_app]
      exact (step_back (tidyF_chain h t) q).symm
    · rw [e, tidyF_app]
      rfl
theorem tidy_parts (a b : List Prim) : tidyL (a ++ b) = tidyL (tidyL a ++ tidyL b) := by
  show tidyF [] _ = tidyF [] _
  rw [tidyF_app, tidyF_app, tidyF_fold a chain_nil, tidyF_fold b (tidyF_chain chain_nil _)]
theorem few_len {l : List Prim} {n : Int} (h : few l n = true) : (l.length : Int) ≤ n := by
  unfold few at h
  simp only [Bool.and_eq_true, decide_eq_true_eq] at h
  exact h.1
theorem tidy_idle (a b : List Prim) {p : Prim} (h : idleP p = true) : tidyL (a ++ p :: b) = tidyL (a ++ b) := by
  show tidyF [] _ = tidyF [] _
  rw [tidyF_app, tidyF_app]
  show tidyF (tidyStep (tidyF [] a) p) b = _
  have : tidyStep (tidyF [] a) p = tidyF [] a := by
    unfold tidyStep
    rw [if_pos h]
  rw [this]
end Go.Qm
