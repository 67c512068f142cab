/- Changes, one behind the other: plain laws. -/
import Derived.Test.YtjlbliljpffmjaaG9
set_option linter.unusedSimpArgs false
set_option linter.unusedVariables false
namespace Go.Qm
open Go.RowKit Go.Vam
set_option linter.unusedSimpArgs false
set_option linter.unusedVariables false

/-! ### A tree, changed by a list -/
def runL (t : List File) : List Prim → List File × Int
  | [] => (t, 0)
  | p :: l => if (applyP t p).2 = 0 then runL (applyP t p).1 l else ([], (applyP t p).2)
theorem runL_append (t : List File) (a b : List Prim) : runL t (a ++ b) = if (runL t a).2 = 0 then runL (runL t a).1 b else ([], (runL t a).2) := by
  induction a generalizing t with
  | nil => simp [runL]
  | cons p a ih =>
    rw [List.cons_append, runL, runL]
    split
    · exact ih _
    · rename_i h; simp [h]
theorem runL_one (t : List File) (p : Prim) : runL t [p] = applyP t p := by
  rw [runL, runL]
  split
  · rename_i h; rw [← h]
  · rename_i h; rw [← apply_err h]
theorem runL_take {t : List File} {l : List Prim} {i : Nat} (h : i < l.length) (h0 : (runL t (l.take i)).2 = 0) : runL t (l.take (i + 1)) = applyP (runL t (l.take i)).1 l[i] := by
  rw [List.take_add_one, List.getElem?_eq_getElem h, Option.toList, runL_append, if_pos h0, runL_one]
theorem runL_err {t : List File} {l : List Prim} (h : (runL t l).2 ≠ 0) : (runL t l).1 = [] := by
  induction l generalizing t with
  | nil => simp [runL] at h
  | cons p l ih =>
    rw [runL] at h ⊢
    split
    · rename_i h0
      rw [if_pos h0] at h
      exact ih h
    · rfl
theorem runL_stop {t : List File} {l : List Prim} {i : Nat} (h0 : (runL t (l.take i)).2 ≠ 0) : runL t l = ([], (runL t (l.take i)).2) := by
  conv => lhs; rw [← List.take_append_drop i l]
  rw [runL_append, if_neg h0]
theorem runL_srt {t : List File} {l : List Prim} (hs : Srt t) (h : (runL t l).2 = 0) : Srt (runL t l).1 := by
  induction l generalizing t with
  | nil => exact hs
  | cons p l ih =>
    rw [runL] at h ⊢
    split at h
    · rename_i h0
      rw [if_pos h0]
      exact ih (apply_srt hs h0) h
    · rename_i h0; exact absurd h h0
theorem runL_N {t : List File} {l : List Prim} {a b : Nat} (h : treeN a b t) (hR : ∀ p ∈ l, primR p) : treeN (a + l.length) (b + 200 * l.length) (runL t l).1 := by
  induction l generalizing t a b with
  | nil => exact h
  | cons p l ih =>
    rw [runL]
    split
    · exact (ih (apply_N h (hR p (by simp))) (fun q hq => hR q (by simp [hq]))).mono (by simp; omega) (by simp; omega)
    · exact ⟨by simp, by simp⟩
theorem runL_ok {t : List File} {a b : List Prim} : (runL t (a ++ b)).2 = 0 ↔ (runL t a).2 = 0 ∧ (runL (runL t a).1 b).2 = 0 := by
  rw [runL_append]
  split
  · rename_i h; simp [h]
  · rename_i h; simp [h]
theorem runL_app {t : List File} {a b : List Prim} (h : (runL t a).2 = 0) : runL t (a ++ b) = runL (runL t a).1 b := by rw [runL_append, if_pos h]
/-- Tidied, a list does the same. -/
theorem run_tidy {t : List File} (hs : Srt t) : ∀ n : Nat, ∀ l : List Prim, l.length = n → (runL t l).2 = 0 → runL t (tidyL l) = runL t l
  | 0, l, hn, _ => by rw [List.eq_nil_of_length_eq_zero hn]; rfl
  | n + 1, l, hn, h => by
    have hne : l ≠ [] := fun e => by subst e; simp at hn
    obtain ⟨l', p, rfl⟩ : ∃ l' p, l = l' ++ [p] := ⟨l.dropLast, l.getLast hne, (List.dropLast_concat_getLast hne).symm⟩
    have hl' : l'.length = n := by simp at hn; omega
    obtain ⟨h1, h2⟩ := runL_ok.1 h
    have ih := run_tidy hs n l' hl' h1
    have e1 : tidyL (l' ++ [p]) = tidyStep (tidyL l') p := by simp [tidyL]
    rw [runL_one] at h2
    rw [e1, runL_app h1, runL_one]
    have hs' := runL_srt hs h1
    unfold tidyStep
    split
    · rename_i hi
      rw [ih]
      have := apply_idle hs' h2 hi
      rw [← Prod.eta (runL t l'), ← Prod.eta (applyP _ p), this, h1, h2]
    · split
      · rename_i q hq
        split
        · rename_i hp
          have hpq : p = turnP q := primEq_iff.1 hp
          obtain ⟨s, hs2⟩ := List.getLast?_eq_some_iff.1 hq
          rw [hs2] at ih ⊢
          have h3 : (runL t (s ++ [q])).2 = 0 := by rw [ih]; exact h1
          obtain ⟨h4, h5⟩ := runL_ok.1 h3
          rw [runL_app h4, runL_one] at ih
          rw [runL_one] at h5
          rw [List.dropLast_concat, ← ih, hpq, apply_back (runL_srt hs h4) h5, ← h4]
        · rw [runL_append, ih, if_pos h1, runL_one]
      · rw [runL_append, ih, if_pos h1, runL_one]

/-! ### Lists that pass one another -/
def passOne : List Prim → Prim → Option (Prim × List Prim)
  | [], q => some (q, [])
  | p :: l, q => match passOne l q with
    | none => none
    | some (x, l') => match passP p x with
      | none => none
      | some (y, p') => some (y, p' :: l')
def passL (a : List Prim) : List Prim → Option (List Prim × List Prim)
  | [] => some ([], a)
  | q :: b => match passOne a q with
    | none => none
    | some (x, a') => match passL a' b with
      | none => none
      | some (f, a'') => some (x :: f, a'')
theorem passOne_cons {p : Prim} {l : List Prim} {q y : Prim} {m : List Prim} : passOne (p :: l) q = some (y, m) ↔ ∃ x p' l', passOne l q = some (x, l') ∧ passP p x = some (y, p') ∧ m = p' :: l' := by
  rw [passOne]
  constructor
  · intro h
    split at h
    · simp at h
    · rename_i x l' h1
      split at h
      · simp at h
      · rename_i y' p' h2
        simp only [Option.some.injEq, Prod.mk.injEq] at h
        exact ⟨x, p', l', h1, by rw [h2, h.1], h.2.symm⟩
  · rintro ⟨x, p', l', h1, h2, rfl⟩
    rw [h1]
    simp only
    rw [h2]
theorem passL_cons {a : List Prim} {q : Prim} {b f m : List Prim} : passL a (q :: b) = some (f, m) ↔ ∃ x a' f', passOne a q = some (x, a') ∧ passL a' b = some (f', m) ∧ f = x :: f' := by
  rw [passL]
  constructor
  · intro h
    split at h
    · simp at h
    · rename_i x a' h1
      split at h
      · simp at h
      · rename_i f' a'' h2
        simp only [Option.some.injEq, Prod.mk.injEq] at h
        exact ⟨x, a', f', h1, by rw [h2, h.2], h.1.symm⟩
  · rintro ⟨x, a', f', h1, h2, rfl⟩
    rw [h1]
    simp only
    rw [h2]
theorem passOne_len {l : List Prim} {q y : Prim} {m : List Prim} (h : passOne l q = some (y, m)) : m.length = l.length := by
  induction l generalizing y m with
  | nil => simp [passOne] at h; rw [← h.2]
  | cons p l ih =>
    obtain ⟨x, p', l', h1, h2, rfl⟩ := passOne_cons.1 h
    simp [ih h1]
theorem passL_len {a b f m : List Prim} (h : passL a b = some (f, m)) : f.length = b.length ∧ m.length = a.length := by
  induction b generalizing a f with
  | nil => simp [passL] at h; obtain ⟨rfl, rfl⟩ := h; exact ⟨rfl, rfl⟩
  | cons q b ih =>
    obtain ⟨x, a', f', h1, h2, rfl⟩ := passL_cons.1 h
    have := ih h2
    have := passOne_len h1
    simp; omega
theorem passL_nil (b : List Prim) : passL [] b = some (b, []) := by
  induction b with
  | nil => rfl
  | cons q b ih => exact passL_cons.2 ⟨q, [], b, rfl, ih, rfl⟩
/-- One behind the other, of those that pass. -/
theorem passOne_append {a d : List Prim} {q y : Prim} {m : List Prim} : passOne (a ++ d) q = some (y, m) ↔ ∃ x d' a', passOne d q = some (x, d') ∧ passOne a x = some (y, a') ∧ m = a' ++ d' := by
  induction a generalizing y m with
  | nil =>
    constructor
    · intro h; exact ⟨y, m, [], h, rfl, rfl⟩
    · rintro ⟨x, d', a', h1, h2, rfl⟩
      simp only [passOne, Option.some.injEq, Prod.mk.injEq] at h2
      obtain ⟨rfl, rfl⟩ := h2
      exact h1
  | cons p a ih =>
    rw [List.cons_append, passOne_cons]
    constructor
    · rintro ⟨x, p', l', h1, h2, rfl⟩
      obtain ⟨x', d', a', h3, h4, rfl⟩ := ih.1 h1
      exact ⟨x', d', p' :: a', h3, passOne_cons.2 ⟨x, p', a', h4, h2, rfl⟩, rfl⟩
    · rintro ⟨x, d', a', h1, h2, rfl⟩
      obtain ⟨x', p', a'', h3, h4, rfl⟩ := passOne_cons.1 h2
      exact ⟨x', p', a'' ++ d', ih.2 ⟨x, d', a'', h1, h3, rfl⟩, h4, rfl⟩
theorem passL_right {a b c f m : List Prim} : passL a (b ++ c) = some (f, m) ↔ ∃ b' c' a', passL a b = some (b', a') ∧ passL a' c = some (c', m) ∧ f = b' ++ c' := by
  induction b generalizing a f with
  | nil =>
    constructor
    · intro h; exact ⟨[], f, a, rfl, h, rfl⟩
    · rintro ⟨b', c', a', h1, h2, rfl⟩
      simp only [passL, Option.some.injEq, Prod.mk.injEq] at h1
      obtain ⟨rfl, rfl⟩ := h1
      exact h2
  | cons q b ih =>
    rw [List.cons_append, passL_cons]
    constructor
    · rintro ⟨x, a', f', h1, h2, rfl⟩
      obtain ⟨b', c', a'', h3, h4, rfl⟩ := ih.1 h2
      exact ⟨x :: b', c', a'', passL_cons.2 ⟨x, a', b', h1, h3, rfl⟩, h4, rfl⟩
    · rintro ⟨b', c', a', h1, h2, rfl⟩
      obtain ⟨x, a'', f', h3, h4, rfl⟩ := passL_cons.1 h1
      exact ⟨x, a'', f' ++ c', h3, ih.2 ⟨f', c', a', h4, h2, rfl⟩, rfl⟩
theorem passL_left {a d b f m : List Prim} : passL (a ++ d) b = some (f, m) ↔ ∃ b' d' a', passL d b = some (b', d') ∧ passL a b' = some (f, a') ∧ m = a' ++ d' := by
  induction b generalizing a d f with
  | nil =>
    simp only [passL, Option.some.injEq, Prod.mk.injEq]
    constructor
    · rintro ⟨rfl, rfl⟩
      exact ⟨[], d, a, ⟨rfl, rfl⟩, by simp [passL], rfl⟩
    · rintro ⟨b', d', a', ⟨rfl, rfl⟩, h2, rfl⟩
      simp only [passL, Option.some.injEq, Prod.mk.injEq] at h2
      obtain ⟨rfl, rfl⟩ := h2
      exact ⟨rfl, rfl⟩
  | cons q b ih =>
    rw [passL_cons]
    constructor
    · rintro ⟨x, l, f', h1, h2, rfl⟩
      obtain ⟨y, d1, a1, h3, h4, rfl⟩ := passOne_append.1 h1
      obtain ⟨b', d', a', h5, h6, rfl⟩ := ih.1 h2
      exact ⟨y :: b', d', a', passL_cons.2 ⟨y, d1, b', h3, h5, rfl⟩, passL_cons.2 ⟨x, a1, f', h4, h6, rfl⟩, rfl⟩
    · rintro ⟨b', d', a', h1, h2, rfl⟩
      obtain ⟨y, d1, b1, h3, h4, rfl⟩ := passL_cons.1 h1
      obtain ⟨x, a1, f', h5, h6, rfl⟩ := passL_cons.1 h2
      exact ⟨x, a1 ++ d1, f', passOne_append.2 ⟨y, d1, a1, h3, h5, rfl⟩, ih.2 ⟨b1, d', a', h4, h6, rfl⟩, rfl⟩
theorem passL_one (p q : Prim) : passL [p] [q] = (passP p q).map fun r => ([r.1], [r.2]) := by
  cases h : passP p q with
  | none => simp [passL, passOne, h]
  | some r => simp [passL, passOne, h]
/-! ### Back -/
def atMost (n : Int) (l : List Prim) : Prop := ∀ p ∈ l, p.h.at_ ≤ n
theorem pass_at {p q x y : Prim} {m n : Int} (h : passP p q = some (x, y)) (h1 : p.h.at_ ≤ m) (h2 : q.h.at_ ≤ n) : x.h.at_ ≤ n + 200 ∧ y.h.at_ ≤ m + 200 := by
  cases (passP_iff.1 h).2.2 with
  | apart ha hx hy => rw [hx, hy]; omega
  | patch a b hn hk hk2 hh hx hy =>
    rw [hx, hy]
    cases hh with
    | behind hp hq h hm ha hb => have := hunkOk_len hp; have := hunkOk_len hq; rw [ha, hb]; simp only [moved, byH]; omega
    | ahead hp hq h hm ha hb => have := hunkOk_len hp; have := hunkOk_len hq; rw [ha, hb]; simp only [moved, byH]; omega
  | after hk hl hn hx hy => rw [hx, hy]; simp only; omega
  | before hk hl hn hx hy => rw [hx, hy]; simp only; omega
theorem passOne_back {l : List Prim} {q y : Prim} {l' : List Prim} {m n : Int} (h : passOne l q = some (y, l')) (h1 : atMost m l) (h2 : q.h.at_ ≤ n) (hm : m ≤ 1048376) (hn : n + 200 * l.length ≤ 1048376) :
    passL [y] l' = some (l, [q]) ∧ atMost (m + 200) l' ∧ y.h.at_ ≤ n + 200 * l.length := by
  induction l generalizing y l' with
  | nil =>
    simp only [passOne, Option.some.injEq, Prod.mk.injEq] at h
    obtain ⟨rfl, rfl⟩ := h
    exact ⟨rfl, by simp [atMost], by simpa using h2⟩
  | cons p l ih =>
    obtain ⟨x, p', l'', g1, g2, rfl⟩ := passOne_cons.1 h
    simp only [List.length_cons] at hn ⊢
    obtain ⟨i1, i2, i3⟩ := ih g1 (fun z hz => h1 z (by simp [hz])) (by omega)
    have hp := h1 p (by simp)
    obtain ⟨j1, j2⟩ := pass_at g2 hp i3
    have b := pass_back g2 (by omega) (by omega)
    refine ⟨passL_cons.2 ⟨p, [x], l, ?_, i1, rfl⟩, ?_, by omega⟩
    · exact passOne_cons.2 ⟨p', x, [], rfl, b, rfl⟩
    · intro z hz
      rcases List.mem_cons.1 hz with rfl | hz
      · exact j2
      · exact i2 z hz
theorem passL_back {a b f m : List Prim} {u v : Int} (h : passL a b = some (f, m)) (h1 : atMost u a) (h2 : atMost v b) (hu : u + 200 * b.length ≤ 1048376) (hv : v + 200 * a.length ≤ 1048376) : passL f m = some (a, b) := by
  induction b generalizing a f u with
  | nil =>
    simp only [passL, Option.some.injEq, Prod.mk.injEq] at h
    obtain ⟨rfl, rfl⟩ := h
    exact passL_nil _
  | cons q b ih =>
    obtain ⟨x, a', f', g1, g2, rfl⟩ := passL_cons.1 h
    simp only [List.length_cons] at hu
    obtain ⟨i1, i2, i3⟩ := passOne_back g1 h1 (h2 q (by simp)) (by omega) (by omega)
    have hl := passOne_len g1
    have e := ih g2 i2 (fun z hz => h2 z (by simp [hz])) (by omega) (by omega)
    exact passL_left (a := [x]).2 ⟨a', b, [q], e, i1, rfl⟩
/-! ### The same tree -/
theorem passOne_same {t : List File} {l : List Prim} {q y : Prim} {l' : List Prim} (hs : Srt t) (h : (runL t (l ++ [q])).2 = 0) (hp : passOne l q = some (y, l')) : runL t (y :: l') = runL t (l ++ [q]) := by
  induction l generalizing t y l' with
  | nil =>
    simp only [passOne, Option.some.injEq, Prod.mk.injEq] at hp
    obtain ⟨rfl, rfl⟩ := hp
    rfl
  | cons p l ih =>
    obtain ⟨x, p', l'', g1, g2, rfl⟩ := passOne_cons.1 hp
    rw [List.cons_append] at h ⊢
    rw [runL] at h
    rw [runL.eq_2 t p]
    split at h
    · rename_i h0
      rw [if_pos h0]
      have e := ih (apply_srt hs h0) h g1
      rw [← e] at h ⊢
      rw [runL] at h
      rw [runL.eq_2 _ x]
      split at h
      · rename_i h1
        rw [if_pos h1]
        obtain ⟨k1, k2⟩ := pass_same hs h0 h1 g2
        rw [runL, if_pos k1, runL, if_pos (by rw [k2]), k2]
      · rename_i h1; exact absurd h h1
    · rename_i h0; exact absurd h h0
theorem passL_same {t : List File} {a b f m : List Prim} (hs : Srt t) (h : (runL t (a ++ b)).2 = 0) (hp : passL a b = some (f, m)) : runL t (f ++ m) = runL t (a ++ b) := by
  induction b generalizing t a f with
  | nil =>
    simp only [passL, Option.some.injEq, Prod.mk.injEq] at hp
    obtain ⟨rfl, rfl⟩ := hp
    simp
  | cons q b ih =>
    obtain ⟨x, a', f', g1, g2, rfl⟩ := passL_cons.1 hp
    have e1 : a ++ q :: b = (a ++ [q]) ++ b := by simp
    rw [e1] at h ⊢
    obtain ⟨h1, h2⟩ := runL_ok.1 h
    have e2 := passOne_same hs h1 g1
    rw [runL_app h1, ← e2]
    rw [← e2] at h1 h2
    rw [List.cons_append, runL]
    rw [runL] at h1 h2 ⊢
    split at h1
    · rename_i h0
      rw [if_pos h0] at h2 ⊢
      have h3 : (runL (applyP t x).1 (a' ++ b)).2 = 0 := runL_ok.2 ⟨h1, h2⟩
      rw [if_pos h0, ih (apply_srt hs h0) h3 g2, runL_app h1]
    · rename_i h0; exact absurd h1 h0
/-! ### Turned -/
theorem run_turn {t : List File} {l : List Prim} (hs : Srt t) (h : (runL t l).2 = 0) : runL (runL t l).1 (turnL l) = (t, 0) := by
  induction l generalizing t with
  | nil => rfl
  | cons p l ih =>
    rw [runL] at h ⊢
    split at h
    · rename_i h0
      rw [if_pos h0]
      have e := ih (apply_srt hs h0) h
      have : turnL (p :: l) = turnL l ++ [turnP p] := by simp [turnL]
      rw [this, runL_app (by rw [e]), e, runL_one, apply_back hs h0]
    · rename_i h0; exact absurd h h0
end Go.Qm

