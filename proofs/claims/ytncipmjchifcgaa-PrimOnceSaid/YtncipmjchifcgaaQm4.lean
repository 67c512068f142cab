/- Lines, names, hunks, trees, changes: what the functions upon them tell. -/
import Derived.Test.YtncipmjchifcgaaQm3
import Derived.Test.YtncipmjchifcgaaVam24
namespace Go.Qm
open Go.RowKit Go.Vam
set_option linter.unusedSimpArgs false
set_option linter.unusedVariables false

/-! ### Bytes -/
def bytesL (s : Str) : List Int := (List.range s.size).map fun i => byteAt s i
theorem bytesL_len (s : Str) : (bytesL s).length = s.size := by simp [bytesL]
theorem bytesL_get {s : Str} {i : Nat} (h : i < (bytesL s).length) : (bytesL s)[i] = byteAt s i := by simp [bytesL]
theorem bytesL_data (s : Str) : bytesL s = s.data.toList.map fun b => (b.toNat : Int) := by
  refine List.ext_getElem (by simp [bytesL]) fun i h1 h2 => ?_
  rw [bytesL_get]
  have h : i < s.size := by rw [bytesL_len] at h1; exact h1
  simp only [byteAt, h, dif_pos, List.getElem_map, Array.getElem_toList]
  rfl
def noFeed (s : Str) : Bool := (bytesL s).all fun c => !(c == 10)
theorem index_lt (l : List UInt8) : decide (Lib.indexByte l 10 < 0) = (l.map fun b => (b.toNat : Int)).all fun c => !(c == 10) := by
  induction l with
  | nil => rfl
  | cons b l ih =>
    have hge := Lib.indexByte_ge l 10
    simp only [Lib.indexByte, List.map_cons, List.all_cons]
    by_cases hb : b = 10
    · subst hb; simp
    · have h1 : (b == 10) = false := by simpa using hb
      have h2 : ((b.toNat : Int) == 10) = false := by
        rw [beq_eq_false_iff_ne]
        intro h
        apply hb
        apply UInt8.toNat.inj
        show b.toNat = 10
        omega
      simp only [h1, Bool.false_eq_true, if_false, h2, Bool.not_false, Bool.true_and]
      rw [← ih]
      by_cases h3 : Lib.indexByte l 10 = -1
      · simp [h3]
      · have h4 : (Lib.indexByte l 10 == -1) = false := by simpa using h3
        rw [h4]
        simp only [Bool.false_eq_true, if_false]
        rw [decide_eq_decide]
        omega
theorem index_noFeed (s : Str) : decide (Lib.indexByte s.data.toList 10 < 0) = noFeed s := by rw [index_lt, noFeed, bytesL_data]
def lineOk (s : Str) : Bool := decide ((s.size : Int) ≤ 80) && noFeed s
def linesOk (l : List Str) : Bool := decide ((l.length : Int) ≤ 200) && l.all lineOk
def signB (c : Int) : Bool := (decide (c ≥ 97) && decide (c ≤ 122)) || ((decide (c ≥ 48) && decide (c ≤ 57)) || c == 46)
def nameOk (s : Str) : Bool := (bytesL s).all signB && decide (1 ≤ s.size) && decide ((s.size : Int) ≤ 16)
theorem size_empty (s : Str) : (s = ⟨#[]⟩) ↔ s.size = 0 := by
  obtain ⟨a⟩ := s
  constructor
  · intro h; rw [h]; rfl
  · intro h
    have : a.size = 0 := h
    have ha : a = #[] := Array.eq_empty_of_size_eq_zero this
    rw [ha]
def hunkOk (h : Hunk) : Bool := decide (0 ≤ h.at_) && decide (h.at_ ≤ 1048576) && linesOk h.old && linesOk h.new

/-! ### The first of a list that is so -/
def idxI {α : Type} (f : α → Bool) (l : List α) : Int := if l.any f = true then (l.findIdx f : Int) else -1
theorem idxI_nn {α : Type} (f : α → Bool) (l : List α) : decide (idxI f l ≥ 0) = l.any f := by
  unfold idxI
  cases l.any f <;> simp
theorem findIdx_at {α : Type} {f : α → Bool} {l : List α} {i : Nat} (h : i < l.length) (hall : (l.take i).any f = false) (hf : f l[i] = true) : l.findIdx f = i ∧ l.any f = true := by
  have hany : l.any f = true := List.any_eq_true.2 ⟨l[i], List.getElem_mem h, hf⟩
  refine ⟨?_, hany⟩
  rw [List.findIdx_eq h]
  refine ⟨hf, fun j hj => ?_⟩
  rw [List.any_eq_false] at hall
  have := hall l[j] (List.mem_take_iff_getElem.2 ⟨j, by omega, rfl⟩)
  simpa using this
theorem idxI_at {α : Type} {f : α → Bool} {l : List α} {i : Nat} (h : i < l.length) (hall : (l.take i).any f = false) (hf : f l[i] = true) : idxI f l = i := by
  obtain ⟨h1, h2⟩ := findIdx_at h hall hf
  unfold idxI
  rw [h1, h2]; rfl
theorem any_take {α : Type} {f : α → Bool} {l : List α} {i : Nat} (h : i < l.length) : (l.take (i + 1)).any f = ((l.take i).any f || f l[i]) := by
  rw [List.take_add_one, List.any_append, List.getElem?_eq_getElem h]; simp
theorem idxI_none {α : Type} {f : α → Bool} {l : List α} {i : Nat} (hi : i ≤ l.length) (hn : ¬ i < l.length) (h : (l.take i).any f = false) : idxI f l = -1 := by
  have : i = l.length := by omega
  subst this
  rw [List.take_length] at h
  unfold idxI
  rw [h]; rfl
theorem any_not {α : Type} (f : α → Bool) (l : List α) : (!l.any fun x => !f x) = l.all f := by
  induction l with
  | nil => rfl
  | cons x l ih => simp only [List.any_cons, List.all_cons, Bool.not_or, Bool.not_not, ih]
end Go.Qm
