/- Changes, one behind the other: plain laws. -/
import Derived.Test.YtmijejoddoolpaaGreatG10
set_option linter.unusedSimpArgs false
set_option linter.unusedVariables false
namespace Go.Qm
open Go.RowKit Go.Vam
set_option linter.unusedSimpArgs false
set_option linter.unusedVariables false

/-! ### A tree, changed by a list -/
def runL (t : List File) : List Prim → List File × Int
  | [] => (t, 0)
  | p :: l => if (applyP t p).2 = 0 then runL (applyP t p).1 l else ([], (applyP t p).2)
theorem runL_append (t : List File) (a b : List Prim) : runL t (a ++ b) = if (runL t a).2 = 0 then runL (runL t a).1 b else ([], (runL t a).2) := by
  induction a generalizing t with
  | nil => simp [runL]
  | cons p a ih =>
    rw [List.cons_append, runL, runL]
    split
    · exact ih _
    · rename_i h; simp [h]
theorem runL_one (t : List File) (p : Prim) : runL t [p] = applyP t p := by
  rw [runL, runL]
  split
  · rename_i h; rw [← h]
  · rename_i h; rw [← apply_err h]
theorem runL_take {t : List File} {l : List Prim} {i : Nat} (h : i < l.length) (h0 : (runL t (l.take i)).2 = 0) : runL t (l.take (i + 1)) = applyP (runL t (l.take i)).1 l[i] := by
  rw [List.take_add_one, List.getElem?_eq_getElem h, Option.toList, runL_append, if_pos h0, runL_one]
theorem runL_err {t : List File} {l : List Prim} (h : (runL t l).2 ≠ 0) : (runL t l).1 = [] := by
  induction l generalizing t with
  | nil => simp [runL] at h
  | cons p l ih =>
    rw [runL] at h ⊢
    split
    · rename_i h0
      rw [if_pos h0] at h
      exact ih h
    · rfl
theorem runL_stop {t : List File} {l : List Prim} {i : Nat} (h0 : (runL t (l.take i)).2 ≠ 0) : runL t l = ([], (runL t (l.take i)).2) := by
  conv => lhs; rw [← List.take_append_drop i l]
  rw [runL_append, if_neg h0]
theorem runL_srt {t : List File} {l : List Prim} (hs : Srt t) (h : (runL t l).2 = 0) : Srt (runL t l).1 := by
  induction l generalizing t with
  | nil => exact hs
  | cons p l ih =>
    rw [runL] at h ⊢
    split at h
    · rename_i h0
      rw [if_pos h0]
      exact ih (apply_srt hs h0) h
    · rename_i h0; exact absurd h h0
theorem runL_N {t : List File} {l : List Prim} {a b : Nat} (h : treeN a b t) (hR : ∀ p ∈ l, primR p) : treeN (a + l.length) (b + 200 * l.length) (runL t l).1 := by
  induction l generalizing t a b with
  | nil => exact h
  | cons p l ih =>
    rw [runL]
    split
    · exact (ih (apply_N h (hR p (by simp))) (fun q hq => hR q (by simp [hq]))).mono (by simp; omega) (by simp; omega)
    · exact ⟨by simp, by simp⟩
theorem runL_ok {t : List File} {a b : List Prim} : (runL t (a ++ b)).2 = 0 ↔ (runL t a).2 = 0 ∧ (runL (runL t a).1 b).2 = 0 := by
  rw [runL_append]
  split
  · rename_i h; simp [h]
  · rename_i h; simp [h]
theorem runL_app {t : List File} {a b : List Prim} (h : (runL t a).2 = 0) : runL t (a ++ b) = runL (runL t a).1 b := by rw [runL_append, if_pos h]
/-- Tidied, a list does the same. -/
theorem run_tidy {t : List File} (hs : Srt t) : ∀ n : Nat, ∀ l : List Prim, l.length = n → (runL t l).2 = 0 → runL t (tidyL l) = runL t l
  | 0, l, hn, _ => by rw [List.eq_nil_of_length_eq_zero hn]; rfl
  | n + 1, l, hn, h => by
    have hne : l ≠ [] := fun e => by subst e; simp at hn
    obtain ⟨l', p, rfl⟩ : ∃ l' p, l = l' ++ [p] := ⟨l.dropLast, l.getLast hne, (List.dropLast_concat_getLast hne).symm⟩
    have hl' : l'.length = n := by simp at hn; omega
    obtain ⟨h1, h2⟩ := runL_ok.1 h
    have ih := run_tidy hs n l' hl' h1
    have e1 : tidyL (l' ++ [p]) = tidyStep (tidyL l') p := by simp [tidyL]
    rw [runL_one] at h2
    rw [e1, runL_app h1, runL_one]
    have hs' := runL_srt hs h1
    unfold tidyStep
    split
    · rename_i hi
      rw [ih]
      have := apply_idle hs' h2 hi
      rw [← Prod.eta (runL t l'), ← Prod.eta (applyP _ p), this, h1, h2]
    · split
      · rename_i q hq
        split
        · rename_i hp
          have hpq : p = turnP q := primEq_iff.1 hp
          obtain ⟨s, hs2⟩ := List.getLast?_eq_some_iff.1 hq
          rw [hs2] at ih ⊢
          have h3 : (runL t (s ++ [q])).2 = 0 := by rw [ih]; exact h1
          obtain ⟨h4, h5⟩ := runL_ok.1 h3
          rw [runL_app h4, runL_one] at ih
          rw [runL_one] at h5
          rw [List.dropLast_concat, ← ih, hpq, apply_back (runL_srt hs h4) h5, ← h4]
        · rw [runL_append, ih, if_pos h1, runL_one]
      · rw [runL_append, ih, if_pos h1, runL_one]

/-! ### Lists that pass one another -/
def passOne : List Prim → Prim → Option (Prim × List Prim)
  | [], q => some (q, [])
  | p :: l, q => match passOne l q with
    | none => none
    | some (x, l') => match passP p x with
      | none => none
      | some (y, p') => some (y, p' :: l')
def passL (a : List Prim) : List Prim → Option (List Prim × List Prim)
  | [] => some ([], a)
  | q :: b => match passOne a q with
    | none => none
    | some (x, a') => match passL a' b with
      | none => none
      | some (f, a'') => some (x :: f, a'')
theorem passOne_cons {p : Prim} {l : List Prim} {q y : Prim} {m : List Prim} : passOne (p :: l) q = some (y, m) ↔ ∃ x p' l', passOne l q = some (x, l') ∧ passP p x = some (y, p') ∧ m = p' :: l' := by
  rw [passOne]
  constructor
  · intro h
    split at h
    · simp at h
    · rename_i x l' h1
      split at h
      · simp at h
      · rename_i y' p' h2
        simp only [Option.some.injEq, Prod.mk.injEq] at h
        exact ⟨x, p', l', h1, by rw [h2, h.1], h.2.symm⟩
  · rintro ⟨x, p', l', h1, h2, rfl⟩
    rw [h1]
    simp only
    rw [h2]
theorem passL_cons {a : List Prim} {q : Prim} {b f m : List Prim} : passL a (q :: b) = some (f, m) ↔ ∃ x a' f', passOne a q = some (x, a') ∧ passL a' b = some (f', m) ∧ f = x :: f' := by
  rw [passL]
  constructor
  · intro h
    split at h
    · simp at h
    · rename_i x a' h1
      split at h
      · simp at h
      · rename_i f' a'' h2
        simp only [Option.some.injEq, Prod.mk.injEq] at h
        exact ⟨x, a', f', h1, by rw [h2, h.2], h.1.symm⟩
  · rintro ⟨x, a', f', h1, h2, rfl⟩
    rw [h1]
    simp only
    rw [h2]
theorem passOne_len {l : List Prim} {q y : Prim} {m : List Prim} (h : passOne l q = some (y, m)) : m.length = l.length := by
  induction l generalizing y m with
  | nil => simp [passOne] at h; rw [← h.2]
  | cons p l ih =>
    obtain ⟨x, p', l', h1, h2, rfl⟩ := passOne_cons.1 h
    simp [ih h1]
theorem passL_len {a b f m : List Prim} (h : passL a b = some (f, m)) : f.length = b.length ∧ m.length = a.length := by
  induction b generalizing a f with
  | nil => simp [passL] at h; obtain ⟨rfl, rfl⟩ := h; exact ⟨rfl, rfl⟩
  | cons q b ih =>
    obtain ⟨x, a', f', h1, h2, rfl⟩ := passL_cons.1 h
    have := ih h2
    have := passOne_len h1
    simp; omega
theorem passL_nil (b : List Prim) : passL [] b = some (b, []) := by
  induction b with
  | nil => rfl
  | cons q b ih => exact passL_cons.2 ⟨q, [], b, rfl, ih, rfl⟩
/-- One behind the other, of those that pass. -/
theorem passOne_append {a d : List Prim} {q y : Prim} {m : List Prim} : passOne (a ++ d) q = some (y, m) ↔ ∃ x d' a', passOne d q = some (x, d') ∧ passOne a x = some (y, a') ∧ m = a' ++ d' := by
  induction a generalizing y m with
  | nil =>
    constructor
    · intro h; exact ⟨y, m, [], h, rfl, rfl⟩
    · rintro ⟨x, d', a', h1, h2, rfl⟩
      simp only [passOne, Option.some.injEq, Prod.mk.injEq] at h2
      obtain ⟨rfl, rfl⟩ := h2
      exact h1
  | cons p a ih =>
    rw [List.cons_append, passOne_cons]
    constructor
    · rintro ⟨x, p', l', h1, h2, rfl⟩
      obtain ⟨x', d', a', h3, h4, rfl⟩ := ih.1 h1
      exact ⟨x', d', p' :: a', h3, passOne_cons.2 ⟨x, p', a', h4, h2, rfl⟩, rfl⟩
    · rintro ⟨x, d', a', h1, h2, rfl⟩
      obtain ⟨x', p', a'', h3, h4, rfl⟩ := passOne_cons.1 h2
      exact ⟨x', p', a'' ++ d', ih.2 ⟨x, d', a'', h1, h3, rfl⟩, h4, rfl⟩
theorem passL_right {a b c f m : List Prim} : passL a (b ++ c) = some (f, m) ↔ ∃ b' c' a', passL a b = some (b', a') ∧ passL a' c = some (c', m) ∧ f = b' ++ c' := by
  induction b generalizing a f with
  | nil =>
    constructor
    · intro h; exact ⟨[], f, a, rfl, h, rfl⟩
    · rintro ⟨b', c', a', h1, h2, rfl⟩
      simp only [passL, Option.some.injEq, Prod.mk.injEq] at h1
      obtain ⟨rfl, rfl⟩ := h1
      exact h2
  | cons q b ih =>
    rw [List.cons_append, passL_cons]
    constructor
    · rintro ⟨x, a', f', h1, h2, rfl⟩
      obtain ⟨b', c', a'', h3, h4, rfl⟩ := ih.1 h2
      exact ⟨x :: b', c', a'', passL_cons.2 ⟨x, a', b', h1, h3, rfl⟩, h4, rfl⟩
    · rintro ⟨b', c', a', h1, h2, rfl⟩
      obtain ⟨x, a'', f', h3, h4, rfl⟩ := passL_cons.1 h1
      exact ⟨x, a'', f' ++ c', h3, ih.2 ⟨f', c', a', h4, h2, rfl⟩, rfl⟩
theorem passL_left {a d b f m : List Prim} : passL (a ++ d) b = some (f, m) ↔ ∃ b' d' a', passL d b = some (b', d') ∧ passL a b' = some (f, a') ∧ m = a' ++ d' := by
  induction b generalizing a d f with
  | nil =>
    simp only [passL, Option.some.injEq, Prod.mk.injEq]
    constructor
    · rintro ⟨rfl, rfl⟩
      exact ⟨[], d, a, ⟨rfl, rfl⟩, by simp [passL], rfl⟩
    · rintro ⟨b', d', a', ⟨rfl, rfl⟩, h2, rfl⟩
      simp only [passL, Option.some.injEq, Prod.mk.injEq] at h2
      obtain ⟨rfl, rfl⟩ := h2
      exact ⟨rfl, rfl⟩
  | cons q b ih =>
    rw [passL_cons]
    constructor
    · rintro ⟨x, l, f', h1, h2, rfl⟩
      obtain ⟨y, d1, a1, h3, h4, rfl⟩ := passOne_append.1 h1
      obtain ⟨b', d', a', h5, h6, rfl⟩ := ih.1 h2
      exact ⟨y :: b', d', a', passL_cons.2 ⟨y, d1, b', h3, h5, rfl⟩, passL_cons.2 ⟨x, a1, f', h4, h6, rfl⟩, rfl⟩
    · rintro ⟨b', d', a', h1, h2, rfl⟩
      obtain ⟨y, d1, b1, h3, h4, rfl⟩ := passL_cons.1 h1
      obtain ⟨x, a1, f', h5, h6, rfl⟩ := passL_cons.1 h2
      exact ⟨x, a1 ++ d1, f', passOne_append.2 ⟨y, d1, a1, h3, h5, rfl⟩, ih.2 ⟨b1, d', a', h4, h6, rfl⟩, rfl⟩
theorem passOne_fail {m : List Prim} {q x : Prim} {l' : List Prim} {j : Nat} (hj : j < m.length) (h : passOne (m.drop (j + 1)) q = some (x, l')) (hp : passP m[j] x = none) : passOne m q = none := by
  cases hm : passOne m q with
  | none => rfl
  | some r =>
    exfalso
    rw [← List.take_append_drop j m] at hm
    obtain ⟨y, d', a', h1, h2, h3⟩ := passOne_append.1 (show _ = some (r.1, r.2) from hm)
    rw [List.drop_eq_getElem_cons hj] at h1
    obtain ⟨z, p', l'', g1, g2, g3⟩ := passOne_cons.1 h1
    rw [h] at g1
    simp only [Option.some.injEq, Prod.mk.injEq] at g1
    obtain ⟨rfl, rfl⟩ := g1
    rw [hp] at g2
    simp at g2
theorem passOne_step {m : List Prim} {q x : Prim} {l' : List Prim} {j : Nat} (hj : j < m.length) (h : passOne (m.drop (j + 1)) q = some (x, l')) {y p' : Prim} (hp : passP m[j] x = some (y, p')) : passOne (m.drop j) q = some (y, p' :: l') := by
  rw [List.drop_eq_getElem_cons hj]
  exact passOne_cons.2 ⟨x, p', l', h, hp, rfl⟩
theorem passL_fail {a b f m : List Prim} {i : Nat} (hi : i < b.length) (h : passL a (b.take i) = some (f, m)) (hp : passOne m b[i] = none) : passL a b = none := by
  cases hm : passL a b with
  | none => rfl
  | some r =>
    exfalso
    rw [← List.take_append_drop i b] at hm
    obtain ⟨b', c', a', h1, h2, h3⟩ := passL_right.1 (show _ = some (r.1, r.2) from hm)
    rw [h] at h1
    simp only [Option.some.injEq, Prod.mk.injEq] at h1
    obtain ⟨rfl, rfl⟩ := h1
    rw [List.drop_eq_getElem_cons hi] at h2
    obtain ⟨x, a'', f', g1, g2, g3⟩ := passL_cons.1 h2
    rw [hp] at g1
    simp at g1
theorem passL_step {a b f m : List Prim} {i : Nat} (hi : i < b.length) (h : passL a (b.take i) = some (f, m)) {x : Prim} {m' : List Prim} (hp : passOne m b[i] = some (x, m')) : passL a (b.take (i + 1)) = some (f ++ [x], m') := by
  rw [List.take_add_one, List.getElem?_eq_getElem hi]
  exact passL_right.2 ⟨f, [x], m, h, passL_cons.2 ⟨x, m', [], hp, rfl, rfl⟩, rfl⟩
theorem passL_one (p q : Prim) : passL [p] [q] = (passP p q).map fun r => ([r.1], [r.2]) := by
  cases h : passP p q with
  | none => simp [passL, passOne, h]
  | some r => simp [passL, passOne, h]
/-! ### Back -/
def atMost (n : Int) (l : List Prim) : Prop := ∀ p ∈ l, p.h.at_ ≤ n
theorem pass_at {p q x y : Prim} {m n : Int} (h : passP p q = some (x, y)) (h1 : p.h.at_ ≤ m) (h2 : q.h.at_ ≤ n) : x.h.at_ ≤ n + 200 ∧ y.h.at_ ≤ m + 200 := by
  cases (passP_iff.1 h).2.2 with
  | apart ha hx hy => rw [hx, hy]; omega
  | patch a b hn hk hk2 hh hx hy =>
    rw [hx, hy]
    cases hh with
    | behind hp hq h hm ha hb => have := hunkOk_len hp; have := hunkOk_len hq; rw [ha, hb]; simp only [moved, byH]; omega
    | ahead hp hq h hm ha hb => have := hunkOk_len hp; have := hunkOk_len hq; rw [ha, hb]; simp only [moved, byH]; omega
  | after hk hl hn hx hy => rw [hx, hy]; simp only; omega
  | before hk hl hn hx hy => rw [hx, hy]; simp only; omega
theorem passOne_back {l : List Prim} {q y : Prim} {l' : List Prim} {m n : Int} (h : passOne l q = some (y, l')) (h1 : atMost m l) (h2 : q.h.at_ ≤ n) (hm : m ≤ 1048376) (hn : n + 200 * l.length ≤ 1048376) :
    passL [y] l' = some (l, [q]) ∧ atMost (m + 200) l' ∧ y.h.at_ ≤ n + 200 * l.length := by
  induction l generalizing y l' with
  | nil =>
    simp only [passOne, Option.some.injEq, Prod.mk.injEq] at h
    obtain ⟨rfl, rfl⟩ := h
    exact ⟨rfl, by simp [atMost], by simpa using h2⟩
  | cons p l ih =>
    obtain ⟨x, p', l'', g1, g2, rfl⟩ := passOne_cons.1 h
    simp only [List.length_cons] at hn ⊢
    obtain ⟨i1, i2, i3⟩ := ih g1 (fun z hz => h1 z (by simp [hz])) (by omega)
    have hp := h1 p (by simp)
    obtain ⟨j1, j2⟩ := pass_at g2 hp i3
    have b := pass_back g2 (by omega) (by omega)
    refine ⟨passL_cons.2 ⟨p, [x], l, ?_, i1, rfl⟩, ?_, by omega⟩
    · exact passOne_cons.2 ⟨p', x, [], rfl, b, rfl⟩
    · intro z hz
      rcases List.mem_cons.1 hz with rfl | hz
      · exact j2
      · exact i2 z hz
theorem passL_back {a b f m : List Prim} {u v : Int} (h : passL a b = some (f, m)) (h1 : atMost u a) (h2 : atMost v b) (hu : u + 200 * b.length ≤ 1048376) (hv : v + 200 * a.length ≤ 1048376) : passL f m = some (a, b) := by
  induction b generalizing a f u with
  | nil =>
    simp only [passL, Option.some.injEq, Prod.mk.injEq] at h
    obtain ⟨rfl, rfl⟩ := h
    exact passL_nil _
  | cons q b ih =>
    obtain ⟨x, a', f', g1, g2, rfl⟩ := passL_cons.1 h
    simp only [List.length_cons] at hu
    obtain ⟨i1, i2, i3⟩ := passOne_back g1 h1 (h2 q (by simp)) (by omega) (by omega)
    have hl := passOne_len g1
    have e := ih g2 i2 (fun z hz => h2 z (by simp [hz])) (by omega) (by omega)
    exact passL_left (a := [x]).2 ⟨a', b, [q], e, i1, rfl⟩
/-! ### The same tree -/
theorem passOne_same {t : List File} {l : List Prim} {q y : Prim} {l' : List Prim} (hs : Srt t) (h : (runL t (l ++ [q])).2 = 0) (hp : passOne l q = some (y, l')) : runL t (y :: l') = runL t (l ++ [q]) := by
  induction l generalizing t y l' with
  | nil =>
    simp only [passOne, Option.some.injEq, Prod.mk.injEq] at hp
    obtain ⟨rfl, rfl⟩ := hp
    rfl
  | cons p l ih =>
    obtain ⟨x, p', l'', g1, g2, rfl⟩ := passOne_cons.1 hp
    rw [List.cons_append] at h ⊢
    rw [runL] at h
    rw [runL.eq_2 t p]
    split at h
    · rename_i h0
      rw [if_pos h0]
      have e := ih (apply_srt hs h0) h g1
      rw [← e] at h ⊢
      rw [runL] at h
      rw [runL.eq_2 _ x]
      split at h
      · rename_i h1
        rw [if_pos h1]
        obtain ⟨k1, k2⟩ := pass_same hs h0 h1 g2
        rw [runL, if_pos k1, runL, if_pos (by rw [k2]), k2]
      · rename_i h1; exact absurd h h1
    · rename_i h0; exact absurd h h0
theorem passL_same {t : List File} {a b f m : List Prim} (hs : Srt t) (h : (runL t (a ++ b)).2 = 0) (hp : passL a b = some (f, m)) : runL t (f ++ m) = runL t (a ++ b) := by
  induction b generalizing t a f with
  | nil =>
    simp only [passL, Option.some.injEq, Prod.mk.injEq] at hp
    obtain ⟨rfl, rfl⟩ := hp
    simp
  | cons q b ih =>
    obtain ⟨x, a', f', g1, g2, rfl⟩ := passL_cons.1 hp
    have e1 : a ++ q :: b = (a ++ [q]) ++ b := by simp
    rw [e1] at h ⊢
    obtain ⟨h1, h2⟩ := runL_ok.1 h
    have e2 := passOne_same hs h1 g1
    rw [runL_app h1, ← e2]
    rw [← e2] at h1 h2
    rw [List.cons_append, runL]
    rw [runL] at h1 h2 ⊢
    split at h1
    · rename_i h0
      rw [if_pos h0] at h2 ⊢
      have h3 : (runL (applyP t x).1 (a' ++ b)).2 = 0 := runL_ok.2 ⟨h1, h2⟩
      rw [if_pos h0, ih (apply_srt hs h0) h3 g2, runL_app h1]
    · rename_i h0; exact absurd h1 h0
/-! ### Turned -/
theorem run_turn {t : List File} {l : List Prim} (hs : Srt t) (h : (runL t l).2 = 0) : runL (runL t l).1 (turnL l) = (t, 0) := by
  induction l generalizing t with
  | nil => rfl
  | cons p l ih =>
    rw [runL] at h ⊢
    split at h
    · rename_i h0
      rw [if_pos h0]
      have e := ih (apply_srt hs h0) h
      have : turnL (p :: l) = turnL l ++ [turnP p] := by simp [turnL]
      rw [this, runL_app (by rw [e]), e, runL_one, apply_back hs h0]
    · rename_i h0; exact absurd h h0
end Go.Qm

/- Named patches: plain laws. -/
namespace Go.Qm
open Go.RowKit Go.Vam
set_option linter.unusedSimpArgs false
set_option linter.unusedVariables false

def idEq (a b : Id) : Bool := a.who == b.who && a.no == b.no
theorem idEq_iff {a b : Id} : idEq a b = true ↔ a = b := by
  cases a; cases b; simp [idEq]
theorem idEq_refl (a : Id) : idEq a a = true := by simp [idEq]
theorem idEq_comm (a b : Id) : idEq a b = idEq b a := by
  have : idEq a b = true ↔ idEq b a = true := by rw [idEq_iff, idEq_iff]; exact eq_comm
  cases h1 : idEq a b <;> cases h2 : idEq b a <;> simp_all
def idLess (a b : Id) : Bool := decide (a.who < b.who) || (a.who == b.who && decide (a.no < b.no))
theorem idLess_iff {a b : Id} : idLess a b = true ↔ a.who < b.who ∨ a.who = b.who ∧ a.no < b.no := by simp [idLess]
def idOk (x : Id) : Bool := decide (x.who ≥ 0) && decide (x.who < 8) && decide (x.no ≥ 1) && decide (x.no ≤ 1048576)
def pairAt (l : List Id) (j : Nat) : Bool := match l[j]?, l[j + 1]? with
  | some a, some b => idLess a b
  | _, _ => true
def pairsL (l : List Id) : Bool := (List.range l.length).all (pairAt l)
theorem pairsL_iff {l : List Id} : pairsL l = true ↔ ∀ j (h : j + 1 < l.length), idLess l[j] l[j + 1] = true := by
  unfold pairsL
  rw [List.all_eq_true]
  constructor
  · intro h j hj
    have := h j (by rw [List.mem_range]; omega)
    unfold pairAt at this
    rw [List.getElem?_eq_getElem (by omega), List.getElem?_eq_getElem hj] at this
    exact this
  · intro h j hj
    unfold pairAt
    by_cases h2 : j + 1 < l.length
    · rw [List.getElem?_eq_getElem (by omega), List.getElem?_eq_getElem h2]
      exact h j h2
    · rw [List.getElem?_eq_none (l := l) (i := j + 1) (by omega)]
      split <;> simp_all
theorem pairsL_not {l : List Id} {j : Nat} (h : j + 1 < l.length) (hn : idLess l[j] l[j + 1] = false) : pairsL l = false := by
  cases hp : pairsL l with
  | false => rfl
  | true => rw [pairsL_iff] at hp; rw [hp j h] at hn; simp at hn
def oddId (p x : Id) : Bool := !idOk x || idEq x p
def mayN (p : Named) : Bool := idOk p.id && decide ((p.deps.length : Int) ≤ 60) && !p.deps.any (oddId p.id) && pairsL p.deps && lineOk p.text && decide ((p.l.length : Int) ≤ 200) && p.l.all mayP
theorem mayN_odd {p : Named} {i : Nat} (h : i < p.deps.length) (ho : oddId p.id p.deps[i] = true) : mayN p = false := by
  have : p.deps.any (oddId p.id) = true := List.any_eq_true.2 ⟨_, List.getElem_mem h, ho⟩
  simp [mayN, this]
theorem mayN_pairs {p : Named} (h : pairsL p.deps = false) : mayN p = false := by simp [mayN, h]
def sameN (p q : Named) : Bool := idEq p.id q.id && p.text == q.text && all2 idEq p.deps q.deps && all2 primEq p.l q.l
theorem all2_refl_of {α : Type} {f : α → α → Bool} (l : List α) (h : ∀ x, f x x = true) : all2 f l l = true := by
  induction l with
  | nil => rfl
  | cons x l ih => simp [all2, h, ih]
theorem sameN_refl (p : Named) : sameN p p = true := by
  unfold sameN
  rw [idEq_refl, all2_refl_of p.deps idEq_refl, all2_refl]
  simp [str_beq]
def allN (l : List Named) : List Prim := (l.map (·.l)).flatten
theorem allN_take {l : List Named} {i : Nat} (h : i < l.length) : allN (l.take (i + 1)) = allN (l.take i) ++ l[i].l := by
  unfold allN
  rw [List.take_add_one, List.getElem?_eq_getElem h, List.map_append, List.flatten_append]
  simp
theorem allN_append (a b : List Named) : allN (a ++ b) = allN a ++ allN b := by simp [allN]
theorem allN_mem {l : List Named} {q : Prim} (h : q ∈ allN l) : ∃ p ∈ l, q ∈ p.l := by
  obtain ⟨m, h1, h2⟩ := List.mem_flatten.1 h
  obtain ⟨p, h3, rfl⟩ := List.mem_map.1 h1
  exact ⟨p, h3, h2⟩
def lightN (p : Named) (n : Int) : Bool := few p.l n && decide ((p.deps.length : Int) ≤ 100) && decide ((p.text.size : Int) ≤ 200)
def fewN (l : List Named) (n : Int) : Bool := decide ((l.length : Int) ≤ n) && l.all fun p => lightN p 10
theorem fewN_len {l : List Named} {n : Int} (h : fewN l n = true) : (l.length : Int) ≤ n := by simp [fewN] at h; exact h.1
theorem allN_len {l : List Named} {n : Nat} (h : ∀ p ∈ l, p.l.length ≤ n) : (allN l).length ≤ l.length * n := by
  induction l with
  | nil => simp [allN]
  | cons p l ih =>
    have h1 := ih fun q hq => h q (by simp [hq])
    have h2 := h p (by simp)
    have : (allN (p :: l)).length = p.l.length + (allN l).length := by simp [allN]
    rw [this, List.length_cons, Nat.succ_mul]
    omega
theorem fewN_all {l : List Named} {n : Int} (h : fewN l n = true) : (allN l).length ≤ l.length * 10 := by
  refine allN_len fun p hp => ?_
  have h2 : lightN p 10 = true := by simp only [fewN, Bool.and_eq_true, List.all_eq_true] at h; exact h.2 p hp
  simp only [lightN, Bool.and_eq_true] at h2
  have := few_len h2.1.1
  omega
def findN (l : List Named) (x : Id) : Int := idxI (fun p => idEq p.id x) l
theorem idxI_append {α : Type} (f : α → Bool) (a b : List α) : idxI f (a ++ b) = if idxI f a ≥ 0 then idxI f a else if idxI f b ≥ 0 then (a.length : Int) + idxI f b else -1 := by
  unfold idxI
  rw [List.any_append, List.findIdx_append]
  by_cases ha : a.any f = true
  · have hl : a.findIdx f < a.length := by
      obtain ⟨x, hx, hf⟩ := List.any_eq_true.1 ha
      exact List.findIdx_lt_length_of_exists ⟨x, hx, hf⟩
    simp only [ha, Bool.true_or, if_true, if_pos hl]
    rw [if_pos (Int.natCast_nonneg _)]
  · have ha' : a.any f = false := by simpa using ha
    have h3 : a.findIdx f = a.length := by
      rw [List.any_eq_false] at ha'
      exact List.findIdx_eq_length.2 fun x hx => by simpa using ha' x hx
    have hn : ¬ a.findIdx f < a.length := by omega
    simp only [ha', Bool.false_or, Bool.false_eq_true, if_false, if_neg hn]
    cases hb : b.any f
    · simp
    · simp; omega
theorem findN_append (a b : List Named) (x : Id) : findN (a ++ b) x = if findN a x ≥ 0 then findN a x else if findN b x ≥ 0 then (a.length : Int) + findN b x else -1 := idxI_append _ a b
theorem idLess_asym {a b : Id} (h : idLess a b = true) : idLess b a = false := by
  cases h2 : idLess b a with
  | false => rfl
  | true => rw [idLess_iff] at h h2; omega
theorem idLess_tri (a b : Id) : (idLess a b || idLess b a) = !idEq a b := by
  cases h : idEq a b with
  | true =>
    rw [idEq_iff] at h
    subst h
    cases h1 : idLess a a with
    | false => rfl
    | true => rw [idLess_iff] at h1; omega
  | false =>
    cases h1 : idLess a b with
    | true => rfl
    | false =>
      cases h2 : idLess b a with
      | true => rfl
      | false =>
        exfalso
        have n1 : ¬ idLess a b = true := by rw [h1]; simp
        have n2 : ¬ idLess b a = true := by rw [h2]; simp
        rw [idLess_iff] at n1 n2
        have : idEq a b = true := by simp [idEq]; omega
        rw [h] at this
        simp at this
theorem idLess_trans {a b c : Id} (h1 : idLess a b = true) (h2 : idLess b c = true) : idLess a c = true := by
  rw [idLess_iff] at *
  omega
theorem mayN_less {p : Named} {n k : Nat} (h : mayN p = true) : mayN ⟨p.id, p.deps.drop n, p.text, p.l.take k⟩ = true := by
  simp only [mayN, Bool.and_eq_true, decide_eq_true_eq, Bool.not_eq_true'] at h ⊢
  obtain ⟨⟨⟨⟨⟨⟨h1, h2⟩, h3⟩, h4⟩, h5⟩, h6⟩, h7⟩ := h
  refine ⟨⟨⟨⟨⟨⟨h1, by simp; omega⟩, ?_⟩, ?_⟩, h5⟩, by simp; omega⟩, ?_⟩
  · rw [List.any_eq_false] at h3 ⊢
    exact fun x hx => h3 x (List.mem_of_mem_drop hx)
  · rw [pairsL_iff] at h4 ⊢
    intro j hj
    simp only [List.length_drop] at hj
    have := h4 (n + j) (by omega)
    simpa [List.getElem_drop, Nat.add_assoc] using this
  · rw [List.all_eq_true] at h7 ⊢
    exact fun x hx => h7 x (List.mem_of_mem_take hx)
theorem mayN_twice {p : Named} {x : Id} {i : Id} {t : Str} {l : List Prim} (h : p.deps.getLast? = some x) : mayN ⟨i, p.deps ++ [x], t, l⟩ = false := by
  refine mayN_pairs ?_
  simp only
  obtain ⟨ds, hd⟩ := List.getLast?_eq_some_iff.1 h
  rw [hd]
  refine pairsL_not (j := ds.length) (by simp) ?_
  have : idLess x x = false := by
    cases h1 : idLess x x with
    | false => rfl
    | true => rw [idLess_iff] at h1; omega
  simpa [List.getElem_append] using this
end Go.Qm

/- Named patches that pass one another: plain laws. -/
namespace Go.Qm
open Go.RowKit Go.Vam
set_option linter.unusedSimpArgs false
set_option linter.unusedVariables false

def withL (p : Named) (l : List Prim) : Named := ⟨p.id, p.deps, p.text, l⟩
def passN (p q : Named) : Option (Named × Named) :=
  if q.deps.any (fun i => idEq i p.id) = true then none
  else match passL p.l q.l with
    | some (x, y) => some (withL q x, withL p y)
    | none => none
theorem passN_iff {p q x y : Named} : passN p q = some (x, y) ↔ q.deps.any (fun i => idEq i p.id) = false ∧ ∃ f m, passL p.l q.l = some (f, m) ∧ x = withL q f ∧ y = withL p m := by
  unfold passN
  constructor
  · intro h
    split at h
    · simp at h
    · rename_i hd
      split at h
      · rename_i f m e
        simp only [Option.some.injEq, Prod.mk.injEq] at h
        exact ⟨by simpa using hd, f, m, e, h.1.symm, h.2.symm⟩
      · simp at h
  · rintro ⟨h1, f, m, h2, rfl, rfl⟩
    rw [if_neg (by rw [h1]; simp), h2]
theorem passN_same {p q x y : Named} (h : passN p q = some (x, y)) : x.id = q.id ∧ x.deps = q.deps ∧ x.text = q.text ∧ x.l.length = q.l.length ∧ y.id = p.id ∧ y.deps = p.deps ∧ y.text = p.text ∧ y.l.length = p.l.length := by
  obtain ⟨h1, f, m, h2, rfl, rfl⟩ := passN_iff.1 h
  obtain ⟨l1, l2⟩ := passL_len h2
  exact ⟨rfl, rfl, rfl, l1, rfl, rfl, rfl, l2⟩
theorem passN_back {p q x y : Named} {u v : Int} (h : passN p q = some (x, y)) (hd : p.deps.any (fun i => idEq i q.id) = false) (h1 : atMost u p.l) (h2 : atMost v q.l) (hu : u + 200 * q.l.length ≤ 1048376) (hv : v + 200 * p.l.length ≤ 1048376) : passN x y = some (p, q) := by
  obtain ⟨k1, f, m, k2, rfl, rfl⟩ := passN_iff.1 h
  exact passN_iff.2 ⟨hd, p.l, q.l, passL_back k2 h1 h2 hu hv, rfl, rfl⟩
/-! ### Past many -/
def overN : List Named → Named → Option (Named × List Named)
  | [], q => some (q, [])
  | p :: l, q => match overN l q with
    | none => none
    | some (x, l') => match passN p x with
      | none => none
      | some (y, p') => some (y, p' :: l')
theorem overN_cons {p : Named} {l : List Named} {q y : Named} {m : List Named} : overN (p :: l) q = some (y, m) ↔ ∃ x p' l', overN l q = some (x, l') ∧ passN p x = some (y, p') ∧ m = p' :: l' := by
  rw [overN]
  constructor
  · intro h
    split at h
    · simp at h
    · rename_i x l' h1
      split at h
      · simp at h
      · rename_i y' p' h2
        simp only [Option.some.injEq, Prod.mk.injEq] at h
        exact ⟨x, p', l', h1, by rw [h2, h.1], h.2.symm⟩
  · rintro ⟨x, p', l', h1, h2, rfl⟩
    rw [h1]
    simp only
    rw [h2]
theorem overN_append {a d : List Named} {q y : Named} {m : List Named} : overN (a ++ d) q = some (y, m) ↔ ∃ x d' a', overN d q = some (x, d') ∧ overN a x = some (y, a') ∧ m = a' ++ d' := by
  induction a generalizing y m with
  | nil =>
    constructor
    · intro h; exact ⟨y, m, [], h, rfl, rfl⟩
    · rintro ⟨x, d', a', h1, h2, rfl⟩
      simp only [overN, Option.some.injEq, Prod.mk.injEq] at h2
      obtain ⟨rfl, rfl⟩ := h2
      exact h1
  | cons p a ih =>
    rw [List.cons_append, overN_cons]
    constructor
    · rintro ⟨x, p', l', h1, h2, rfl⟩
      obtain ⟨x', d', a', h3, h4, rfl⟩ := ih.1 h1
      exact ⟨x', d', p' :: a', h3, overN_cons.2 ⟨x, p', a', h4, h2, rfl⟩, rfl⟩
    · rintro ⟨x, d', a', h1, h2, rfl⟩
      obtain ⟨x', p', a'', h3, h4, rfl⟩ := overN_cons.1 h2
      exact ⟨x', p', a'' ++ d', ih.2 ⟨x, d', a'', h1, h3, rfl⟩, h4, rfl⟩
theorem overN_fail {m : List Named} {q x : Named} {l' : List Named} {j : Nat} (hj : j < m.length) (h : overN (m.drop (j + 1)) q = some (x, l')) (hp : passN m[j] x = none) : overN m q = none := by
  cases hm : overN m q with
  | none => rfl
  | some r =>
    exfalso
    rw [← List.take_append_drop j m] at hm
    obtain ⟨y, d', a', h1, h2, h3⟩ := overN_append.1 (show _ = some (r.1, r.2) from hm)
    rw [List.drop_eq_getElem_cons hj] at h1
    obtain ⟨z, p', l'', g1, g2, g3⟩ := overN_cons.1 h1
    rw [h] at g1
    simp only [Option.some.injEq, Prod.mk.injEq] at g1
    obtain ⟨rfl, rfl⟩ := g1
    rw [hp] at g2
    simp at g2
theorem overN_step {m : List Named} {q x : Named} {l' : List Named} {j : Nat} (hj : j < m.length) (h : overN (m.drop (j + 1)) q = some (x, l')) {y p' : Named} (hp : passN m[j] x = some (y, p')) : overN (m.drop j) q = some (y, p' :: l') := by
  rw [List.drop_eq_getElem_cons hj]
  exact overN_cons.2 ⟨x, p', l', h, hp, rfl⟩
theorem overN_len {l : List Named} {q y : Named} {m : List Named} (h : overN l q = some (y, m)) : m.length = l.length := by
  induction l generalizing y m with
  | nil => simp [overN] at h; rw [← h.2]
  | cons p l ih =>
    obtain ⟨x, p', l', h1, h2, rfl⟩ := overN_cons.1 h
    simp [ih h1]
theorem overN_keep {K : Named → Prop} (hK : ∀ p q x y, K p → K q → passN p q = some (x, y) → K x ∧ K y) {l : List Named} {q y : Named} {m : List Named} (h : overN l q = some (y, m)) (hl : ∀ p ∈ l, K p) (hq : K q) : K y ∧ ∀ p ∈ m, K p := by
  induction l generalizing y m with
  | nil =>
    simp only [overN, Option.some.injEq, Prod.mk.injEq] at h
    obtain ⟨rfl, rfl⟩ := h
    exact ⟨hq, by simp⟩
  | cons p l ih =>
    obtain ⟨x, p', l', h1, h2, rfl⟩ := overN_cons.1 h
    obtain ⟨k1, k2⟩ := ih h1 (fun z hz => hl z (by simp [hz]))
    obtain ⟨k3, k4⟩ := hK _ _ _ _ (hl p (by simp)) k1 h2
    exact ⟨k3, by simpa using ⟨k4, k2⟩⟩
/-- Id, Deps and Text stay; so does the number of changes. -/
def likeN (p q : Named) : Prop := p.id = q.id ∧ p.deps = q.deps ∧ p.text = q.text ∧ p.l.length = q.l.length
theorem likeN.refl (p : Named) : likeN p p := ⟨rfl, rfl, rfl, rfl⟩
theorem likeN.trans {p q r : Named} (h : likeN p q) (k : likeN q r) : likeN p r := ⟨h.1.trans k.1, h.2.1.trans k.2.1, h.2.2.1.trans k.2.2.1, h.2.2.2.trans k.2.2.2⟩
theorem passN_like {p q x y : Named} (h : passN p q = some (x, y)) : likeN x q ∧ likeN y p := by
  obtain ⟨a, b, c, d, e, f, g, k⟩ := passN_same h
  exact ⟨⟨a, b, c, d⟩, ⟨e, f, g, k⟩⟩
theorem overN_like {l : List Named} {q y : Named} {m : List Named} (h : overN l q = some (y, m)) : likeN y q ∧ ∀ (i : Nat) (hi : i < m.length) (hi' : i < l.length), likeN m[i] l[i] := by
  induction l generalizing y m with
  | nil =>
    simp only [overN, Option.some.injEq, Prod.mk.injEq] at h
    obtain ⟨rfl, rfl⟩ := h
    exact ⟨.refl _, fun i hi => by simp at hi⟩
  | cons p l ih =>
    obtain ⟨x, p', l', h1, h2, rfl⟩ := overN_cons.1 h
    obtain ⟨k1, k2⟩ := ih h1
    obtain ⟨j1, j2⟩ := passN_like h2
    refine ⟨j1.trans k1, fun i hi hi' => ?_⟩
    cases i with
    | zero => exact j2
    | succ i => exact k2 i (by simpa using hi) (by simpa using hi')
theorem passN_run {t : List File} {p q x y : Named} (hs : Srt t) (h : (runL t (p.l ++ q.l)).2 = 0) (hp : passN p q = some (x, y)) : runL t (x.l ++ y.l) = runL t (p.l ++ q.l) := by
  obtain ⟨_, f, m, h2, rfl, rfl⟩ := passN_iff.1 hp
  exact passL_same hs h h2
theorem overN_run {t : List File} {l : List Named} {q y : Named} {m : List Named} (hs : Srt t) (h : (runL t (allN l ++ q.l)).2 = 0) (hp : overN l q = some (y, m)) : runL t (y.l ++ allN m) = runL t (allN l ++ q.l) := by
  induction l generalizing t y m with
  | nil =>
    simp only [overN, Option.some.injEq, Prod.mk.injEq] at hp
    obtain ⟨rfl, rfl⟩ := hp
    simp [allN]
  | cons p l ih =>
    obtain ⟨x, p', l', g1, g2, rfl⟩ := overN_cons.1 hp
    have e0 : allN (p :: l) = p.l ++ allN l := by simp [allN]
    have e0' : allN (p' :: l') = p'.l ++ allN l' := by simp [allN]
    rw [e0, List.append_assoc] at h ⊢
    obtain ⟨h1, h2⟩ := runL_ok.1 h
    have e := ih (runL_srt hs h1) h2 g1
    rw [runL_app h1, ← e]
    rw [← e] at h2
    have h3 : (runL t ((p.l ++ x.l) ++ allN l')).2 = 0 := by rw [List.append_assoc]; exact runL_ok.2 ⟨h1, h2⟩
    obtain ⟨h4, h5⟩ := runL_ok.1 h3
    have e2 := passN_run hs h4 g2
    rw [e0', ← List.append_assoc, runL_append, e2, if_pos h4, ← runL_app h4, List.append_assoc, runL_app h1]
end Go.Qm

/- Lists, turned about in place: plain laws. -/
namespace Go.Qm
open Go.RowKit Go.Vam
set_option linter.unusedSimpArgs false
set_option linter.unusedVariables false

/-- A list whose first and last i things have changed their places. -/
def revI {α : Type} (l : List α) (i : Nat) : List α := l.mapIdx fun k x => if k < i ∨ l.length ≤ k + i then (l[l.length - 1 - k]?).getD x else x
theorem revI_len {α : Type} (l : List α) (i : Nat) : (revI l i).length = l.length := by simp [revI]
theorem revI_get {α : Type} {l : List α} {i k : Nat} (h : k < l.length) : (revI l i)[k]'(by rw [revI_len]; exact h) = if k < i ∨ l.length ≤ k + i then l[l.length - 1 - k]'(by omega) else l[k] := by
  simp only [revI, List.getElem_mapIdx]
  split
  · rw [List.getElem?_eq_getElem (by omega)]; rfl
  · rfl
theorem revI_zero {α : Type} (l : List α) : revI l 0 = l := by
  refine List.ext_getElem (revI_len _ _) fun k h1 h2 => ?_
  rw [revI_get h2, if_neg (by omega)]
theorem revI_end {α : Type} {l : List α} {i : Nat} (h : l.length ≤ 2 * i + 1) : revI l i = l.reverse := by
  refine List.ext_getElem (by rw [revI_len]; simp) fun k h1 h2 => ?_
  rw [revI_len] at h1
  rw [revI_get h1, List.getElem_reverse]
  split
  · rfl
  · have : k = l.length - 1 - k := by omega
    congr 1
theorem revI_step {α : Type} {l : List α} {i : Nat} (h : 2 * i + 1 < l.length) : ((revI l i).set i (l[l.length - 1 - i]'(by omega))).set (l.length - 1 - i) (l[i]'(by omega)) = revI l (i + 1) := by
  refine List.ext_getElem (by simp [revI_len]) fun k h1 h2 => ?_
  simp only [List.length_set, revI_len] at h1
  rw [revI_get h1, List.getElem_set]
  split
  · rename_i h3
    subst h3
    rw [if_pos (by omega)]
    congr 1
    omega
  · rename_i h3
    rw [List.getElem_set]
    split
    · rename_i h4
      subst h4
      rw [if_pos (by omega)]
    · rename_i h4
      rw [revI_get h1]
      by_cases h5 : k < i ∨ l.length ≤ k + i
      · rw [if_pos h5, if_pos (by omega)]
      · rw [if_neg h5, if_neg (by omega)]
theorem revI_at {α : Type} {l : List α} {i k : Nat} (h : k < l.length) (h1 : i ≤ k) (h2 : k + i < l.length) : (revI l i)[k]'(by rw [revI_len]; exact h) = l[k] := by
  rw [revI_get h, if_neg (by omega)]
end Go.Qm
