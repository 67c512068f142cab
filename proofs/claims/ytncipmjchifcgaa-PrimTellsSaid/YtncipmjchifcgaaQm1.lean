/- The data of the program: hunks, changes, as plain structures, and as cells. -/
import Derived.Test.YtncipmjchifcgaaVam17
set_option linter.unusedVariables false
set_option linter.unusedSimpArgs false
namespace Go.Qm
open Go.RowKit Go.Vam

abbrev Str := ByteArray
structure Hunk where
  at_ : Int
  old : List Str
  new : List Str
structure Prim where
  kind : Int
  name : Str
  to : Str
  h : Hunk
abbrev strC (s : Str) : List C := [.sc (.string s)]
abbrev strsC (l : List Str) : List (List C) := l.map strC
abbrev hunkC (h : Hunk) : List C := [.sc (.int .i64 h.at_), .sl (strsC h.old), .sl (strsC h.new)]
abbrev primC (p : Prim) : List C := [.sc (.int .i64 p.kind), .sc (.string p.name), .sc (.string p.to), .sc (.int .i64 p.h.at_), .sl (strsC p.h.old), .sl (strsC p.h.new)]
abbrev primsC (l : List Prim) : List (List C) := l.map primC
abbrev boolA (b : Bool) : AV := .c (.sc (.bool b))
abbrev intA (n : Int) : AV := .c (.sc (.int .i64 n))
abbrev strA (s : Str) : AV := .c (.sc (.string s))
abbrev strsA (l : List Str) : AV := .c (.sl (strsC l))
abbrev hunkA (h : Hunk) : AV := .agg (hunkC h)
abbrev primA (p : Prim) : AV := .agg (primC p)
abbrev primsA (l : List Prim) : AV := .c (.sl (primsC l))

/-- Both lists go together, place by place. -/
def all2 {α β : Type} (f : α → β → Bool) : List α → List β → Bool
  | [], [] => true
  | x :: l, y :: m => f x y && all2 f l m
  | _, _ => false
theorem all2_len {α β : Type} {f : α → β → Bool} : ∀ {a : List α} {b : List β}, all2 f a b = true → a.length = b.length
  | [], [], _ => rfl
  | x :: l, y :: m, h => by
    simp only [all2, Bool.and_eq_true] at h
    simp [all2_len h.2]
  | [], _ :: _, h => by simp [all2] at h
  | _ :: _, [], h => by simp [all2] at h
theorem all2_ne {α β : Type} {f : α → β → Bool} {a : List α} {b : List β} (h : a.length ≠ b.length) : all2 f a b = false := by
  cases hq : all2 f a b with
  | false => rfl
  | true => exact (h (all2_len hq)).elim
theorem all2_take {α β : Type} {f : α → β → Bool} : ∀ {a : List α} {b : List β} {i : Nat} (ha : i < a.length) (hb : i < b.length), all2 f (a.take (i + 1)) (b.take (i + 1)) = (all2 f (a.take i) (b.take i) && f a[i] b[i])
  | x :: l, y :: m, 0, _, _ => by simp [all2]
  | x :: l, y :: m, i + 1, ha, hb => by
    have := all2_take (f := f) (a := l) (b := m) (i := i) (by simpa using ha) (by simpa using hb)
    simp only [List.take_succ_cons, all2, List.getElem_cons_succ]
    rw [this, Bool.and_assoc]
  | [], _, _, ha, _ => by simp at ha
  | _ :: _, [], _, _, hb => by simp at hb
theorem all2_at {α β : Type} {f : α → β → Bool} : ∀ {a : List α} {b : List β} {i : Nat} (ha : i < a.length) (hb : i < b.length), f a[i] b[i] = false → all2 f a b = false
  | x :: l, y :: m, 0, _, _, h => by simp only [List.getElem_cons_zero] at h; simp [all2, h]
  | x :: l, y :: m, i + 1, ha, hb, h => by
    have := all2_at (f := f) (a := l) (b := m) (i := i) (by simpa using ha) (by simpa using hb) (by simpa using h)
    simp [all2, this]
  | [], _, _, ha, _, _ => by simp at ha
  | _ :: _, [], _, _, hb, _ => by simp at hb
theorem all2_full {α β : Type} {f : α → β → Bool} {a : List α} {b : List β} {i : Nat} (hi : i ≤ a.length) (hn : ¬ i < a.length) (hl : a.length = b.length) (h : all2 f (a.take i) (b.take i) = true) : all2 f a b = true := by
  have : i = a.length := by omega
  subst this
  rw [List.take_length] at h
  rwa [hl, List.take_length] at h
theorem str_beq (x y : Str) : (x == y) = decide (x = y) := by
  have h : (x == y) = (x.data == y.data) := rfl
  rw [h]
  obtain ⟨a⟩ := x
  obtain ⟨b⟩ := y
  by_cases hab : a = b
  · subst hab; simp
  · have : ¬ (ByteArray.mk a = ByteArray.mk b) := fun e => hab (by cases e; rfl)
    simp [hab, this]
abbrev strsEq (a b : List Str) : Bool := all2 (fun x y => decide (x = y)) a b
theorem strsEq_iff : ∀ {a b : List Str}, strsEq a b = true ↔ a = b
  | [], [] => by simp [all2]
  | x :: l, y :: m => by
    simp only [all2, Bool.and_eq_true, decide_eq_true_eq, List.cons.injEq]
    rw [strsEq_iff]
  | [], _ :: _ => by simp [all2]
  | _ :: _, [] => by simp [all2]
theorem rowLen_strs (l : List Str) : rowLen 1 (strsC l) := by
  intro row h
  obtain ⟨s, _, rfl⟩ := List.mem_map.1 h
  rfl
theorem rowLen_prims (l : List Prim) : rowLen 6 (primsC l) := by
  intro row h
  obtain ⟨s, _, rfl⟩ := List.mem_map.1 h
  rfl

abbrev strB (l : List Str) : Prop := l.length * 16 ≤ 140737488355328
abbrev hunkB (h : Hunk) : Prop := strB h.old ∧ strB h.new
abbrev primB (p : Prim) : Prop := hunkB p.h
def hunkEq (a b : Hunk) : Bool := (a.at_ == b.at_) && strsEq a.old b.old && strsEq a.new b.new
def turnH (h : Hunk) : Hunk := ⟨h.at_, h.new, h.old⟩
def turnP (p : Prim) : Prim :=
  if p.kind = 0 then ⟨1, p.name, p.to, p.h⟩ else if p.kind = 1 then ⟨0, p.name, p.to, p.h⟩ else if p.kind = 2 then ⟨p.kind, p.to, p.name, p.h⟩ else ⟨p.kind, p.name, p.to, turnH p.h⟩
def primEq (a b : Prim) : Bool := (a.kind == b.kind) && (decide (a.name = b.name)) && (decide (a.to = b.to)) && hunkEq a.h b.h
def idleP (p : Prim) : Bool := (p.kind == 3 || p.kind == 4) && strsEq p.h.old p.h.new
def undoes (a b : Prim) : Bool := primEq b (turnP a)
def lightS (l : List Str) (n : Int) : Bool := decide ((l.length : Int) ≤ n) && l.all fun s => decide (s.size ≤ 200)
def lightH (h : Hunk) : Bool := lightS h.old 300 && lightS h.new 300
def lightP (p : Prim) : Bool := lightH p.h && decide ((p.name.size : Int) ≤ 100) && decide ((p.to.size : Int) ≤ 100)
def few (l : List Prim) (n : Int) : Bool := decide ((l.length : Int) ≤ n) && l.all fun p => lightP p && decide (p.h.at_ ≤ 524288)
theorem turnP_B {p : Prim} (h : primB p) : primB (turnP p) := by
  unfold turnP
  split
  · exact h
  · split
    · exact h
    · split
      · exact h
      · exact ⟨h.2, h.1⟩
/-- A loop that asks each one. -/
theorem all_take {α : Type} {f : α → Bool} {l : List α} {i : Nat} (h : i < l.length) : (l.take (i + 1)).all f = ((l.take i).all f && f l[i]) := by
  rw [List.take_add_one, List.all_append, List.getElem?_eq_getElem h]; simp
theorem all_at {α : Type} {f : α → Bool} {l : List α} {i : Nat} (h : i < l.length) (hf : f l[i] = false) : l.all f = false := by
  rw [List.all_eq_false]
  exact ⟨l[i], List.getElem_mem h, by rw [hf]; simp⟩
theorem all_full {α : Type} {f : α → Bool} {l : List α} {i : Nat} (hi : i ≤ l.length) (hn : ¬ i < l.length) (h : (l.take i).all f = true) : l.all f = true := by
  have : i = l.length := by omega
  subst this
  rwa [List.take_length] at h

/-- Nothing is idle, and none undoes the one ahead of it. -/
def tightL (l : List Prim) : Bool := decide (∀ (i : Nat) (h : i < l.length), idleP l[i] = false ∧ ∀ (h0 : 0 < i), undoes (l[i - 1]'(by omega)) l[i] = false)
theorem tight_iff {l : List Prim} : tightL l = true ↔ ∀ (i : Nat) (h : i < l.length), idleP l[i] = false ∧ ∀ (h0 : 0 < i), undoes (l[i - 1]'(by omega)) l[i] = false := by simp [tightL]
theorem tight_idle {l : List Prim} {i : Nat} (h : i < l.length) (hi : idleP l[i] = true) : tightL l = false := by
  cases hq : tightL l with
  | false => rfl
  | true => have := (tight_iff.1 hq i h).1; rw [hi] at this; simp at this
theorem tight_undoes {l : List Prim} {i : Nat} (h0 : 0 < i) (h : i < l.length) (hi : undoes (l[i - 1]'(by omega)) l[i] = true) : tightL l = false := by
  cases hq : tightL l with
  | false => rfl
  | true => have := (tight_iff.1 hq i h).2 h0; rw [hi] at this; simp at this
theorem tight_take {l : List Prim} {i : Nat} (h : i < l.length) (ht : tightL (l.take i) = true) (hi : idleP l[i] = false) : (tightL (l.take (i + 1)) = true) = (0 < i → undoes (l[i - 1]'(by omega)) l[i] = false) := by
  rw [tight_iff] at ht
  rw [tight_iff]
  apply propext
  constructor
  · intro h1 h0
    have := (h1 i (by simp; omega)).2 h0
    simpa using this
  · intro h1 j hj
    have hj' : j < i + 1 := by simp at hj; omega
    by_cases hji : j = i
    · subst hji
      refine ⟨by simpa using hi, fun h0 => by simpa using h1 h0⟩
    · have := ht j (by simp; omega)
      refine ⟨by simpa using this.1, fun h0 => by simpa using this.2 h0⟩
theorem tight_full {l : List Prim} {i : Nat} (hi : i ≤ l.length) (hn : ¬ i < l.length) (h : tightL (l.take i) = true) : tightL l = true := by
  have : i = l.length := by omega
  subst this
  rwa [List.take_length] at h

theorem turnH_turnH (h : Hunk) : turnH (turnH h) = h := rfl
theorem turnP_turnP (p : Prim) : turnP (turnP p) = p := by
  unfold turnP
  by_cases h0 : p.kind = 0
  · simp [h0]; rw [← h0]
  · by_cases h1 : p.kind = 1
    · simp [h1]; rw [← h1]
    · by_cases h2 : p.kind = 2
      · simp [h2]; rw [← h2]
      · simp [h0, h1, h2, turnH]
theorem turn_turn (l : List Prim) : ((l.reverse.map turnP).reverse.map turnP) = l := by
  simp [List.map_reverse, Function.comp_def, turnP_turnP]
/-- One change upon what is left. -/
def tidyStep (s : List Prim) (p : Prim) : List Prim :=
  if idleP p = true then s else match s.getLast? with
    | some q => if primEq p (turnP q) = true then s.dropLast else s ++ [p]
    | none => s ++ [p]
def tidyL (l : List Prim) : List Prim := l.foldl tidyStep []
theorem tidyL_take {l : List Prim} {i : Nat} (h : i < l.length) : tidyL (l.take (i + 1)) = tidyStep (tidyL (l.take i)) l[i] := by
  unfold tidyL
  rw [List.take_add_one, List.foldl_append, List.getElem?_eq_getElem h]
  rfl
theorem tidyStep_len (s : List Prim) (p : Prim) : (tidyStep s p).length ≤ s.length + 1 := by
  unfold tidyStep
  split
  · omega
  · split
    · split <;> simp <;> omega
    · simp
theorem tidyL_len (l : List Prim) : (tidyL l).length ≤ l.length := by
  have : ∀ (l s : List Prim), (l.foldl tidyStep s).length ≤ s.length + l.length := fun l => by
    induction l with
    | nil => intro s; simp
    | cons p l ih =>
      intro s
      have h1 := ih (tidyStep s p)
      have h2 := tidyStep_len s p
      simp only [List.foldl_cons, List.length_cons]
      omega
  simpa [tidyL] using this l []
theorem tidyL_mem {l : List Prim} {q : Prim} (h : q ∈ tidyL l) : q ∈ l := by
  have : ∀ (l s : List Prim), q ∈ l.foldl tidyStep s → q ∈ s ∨ q ∈ l := fun l => by
    induction l with
    | nil => intro s h; exact .inl h
    | cons p l ih =>
      intro s h
      rcases ih _ h with h1 | h1
      · unfold tidyStep at h1
        split at h1
        · exact .inl h1
        · split at h1
          · split at h1
            · exact .inl (List.mem_of_mem_take (List.dropLast_eq_take ▸ h1))
            · rcases List.mem_append.1 h1 with h2 | h2
              · exact .inl h2
              · exact .inr (by simp at h2; simp [h2])
          · rcases List.mem_append.1 h1 with h2 | h2
            · exact .inl h2
            · exact .inr (by simp at h2; simp [h2])
      · exact .inr (by simp [h1])
  rcases this l [] h with h1 | h1
  · simp at h1
  · exact h1
theorem tidyStep_pop {s : List Prim} {p : Prim} (h : idleP p = false) (hpos : s.length - 1 < s.length) (hs : primEq p (turnP s[s.length - 1]) = true) : tidyStep s p = s.dropLast := by
  unfold tidyStep
  rw [if_neg (by rw [h]; simp), List.getLast?_eq_getElem?, List.getElem?_eq_getElem hpos]
  simp only [hs, if_true]
theorem tidyStep_push {s : List Prim} {p : Prim} (h : idleP p = false) (hs : ∀ hpos : s.length - 1 < s.length, primEq p (turnP s[s.length - 1]) = false) : tidyStep s p = s ++ [p] := by
  unfold tidyStep
  rw [if_neg (by rw [h]; simp), List.getLast?_eq_getElem?]
  by_cases hpos : s.length - 1 < s.length
  · rw [List.getElem?_eq_getElem hpos]
    simp [hs hpos]
  · rw [List.getElem?_eq_none (by omega)]
end Go.Qm
