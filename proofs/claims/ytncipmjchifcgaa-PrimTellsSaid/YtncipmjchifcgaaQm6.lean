/- Trees, kept and changed: hunks and changes upon them. -/
import Derived.Test.YtncipmjchifcgaaQm5
import Derived.Test.YtncipmjchifcgaaQm2
namespace Go.Qm
open Go.RowKit Go.Vam
set_option linter.unusedSimpArgs false
set_option linter.unusedVariables false

/-! ### Put, file by file -/
def putI (t : List File) (n : Str) (l : List Str) (i : Nat) : List File :=
  if (t.take i).any (gtN n) = true then t.take (t.findIdx (gtN n)) ++ [⟨n, l⟩] ++ (t.take i).drop (t.findIdx (gtN n)) else t.take i
theorem findIdx_take {α : Type} {f : α → Bool} {l : List α} {i : Nat} (h : (l.take i).any f = true) : l.findIdx f < i := by
  obtain ⟨x, hx, hf⟩ := List.any_eq_true.1 h
  obtain ⟨j, hj, rfl⟩ := List.mem_take_iff_getElem.1 hx
  have hjl : j < l.length := by omega
  have : l.findIdx f ≤ j := by
    rw [← Nat.not_lt]
    intro h2
    have := List.not_of_lt_findIdx h2
    rw [this] at hf
    simp at hf
  omega
theorem drop_take1 {α : Type} {t : List α} {i : Nat} (h : i < t.length) : (t.take (i + 1)).drop i = [t[i]] := by
  rw [List.drop_take, show i + 1 - i = 1 by omega, List.drop_eq_getElem_cons h]
  rfl
theorem putI_gt {t : List File} {n : Str} {l : List Str} {i : Nat} (h : i < t.length) (ha : (t.take i).any (gtN n) = false) (hg : gtN n t[i] = true) : putI t n l (i + 1) = putI t n l i ++ [⟨n, l⟩] ++ [t[i]] := by
  have h1 := (findIdx_at h ha hg).1
  unfold putI
  rw [any_take h, ha, hg, h1, if_pos (by rfl), if_neg (by simp), drop_take1 h]
theorem putI_le {t : List File} {n : Str} {l : List Str} {i : Nat} (h : i < t.length) (ha : (t.take i).any (gtN n) = false) (hg : gtN n t[i] = false) : putI t n l (i + 1) = putI t n l i ++ [t[i]] := by
  unfold putI
  rw [any_take h, ha, hg, if_neg (by simp), if_neg (by simp), List.take_add_one, List.getElem?_eq_getElem h]
  rfl
theorem putI_on {t : List File} {n : Str} {l : List Str} {i : Nat} (h : i < t.length) (ha : (t.take i).any (gtN n) = true) : putI t n l (i + 1) = putI t n l i ++ [t[i]] := by
  have := findIdx_take ha
  unfold putI
  rw [any_take h, ha, if_pos (by simp), if_pos rfl, List.take_add_one, List.getElem?_eq_getElem h, List.drop_append_of_le_length (by simp; omega)]
  simp
theorem putI_end {t : List File} {n : Str} {l : List Str} (hn : t.any (isN n) = false) (h : t.any (gtN n) = true) : putI t n l t.length = treePut t n l := by
  unfold putI treePut
  rw [List.take_length, h, if_pos rfl, hn, if_neg (by simp)]
theorem putI_last {t : List File} {n : Str} {l : List Str} (hn : t.any (isN n) = false) (h : t.any (gtN n) = false) : putI t n l t.length ++ [⟨n, l⟩] = treePut t n l := by
  have h1 : t.findIdx (gtN n) = t.length := by
    rw [List.any_eq_false] at h
    exact List.findIdx_eq_length.2 fun x hx => by simpa using h x hx
  unfold putI treePut
  rw [List.take_length, h, if_neg (by simp), hn, if_neg (by simp), h1]
  simp
theorem del_step {t : List File} {k : Nat} {i : Nat} (h : i < t.length) : (t.take (i + 1)).eraseIdx k = (t.take i).eraseIdx k ++ if i = k then [] else [t[i]] := by
  rw [List.take_add_one, List.getElem?_eq_getElem h]
  by_cases hk : i < k
  · rw [if_neg (by omega), List.eraseIdx_of_length_le (by simp; omega), List.eraseIdx_of_length_le (by simp; omega)]
    rfl
  · by_cases he : i = k
    · subst he
      have hlen : (t.take i).length = i := by simp; omega
      rw [if_pos rfl, List.eraseIdx_append_of_length_le (by omega), hlen, Nat.sub_self]
      rw [List.eraseIdx_of_length_le (l := t.take i) (Nat.le_of_eq hlen)]
      rfl
    · rw [if_neg he, List.eraseIdx_append_of_lt_length (by simp; omega)]
      rfl
theorem treeDel_erase (t : List File) (n : Str) : treeDel t n = t.eraseIdx (t.findIdx (isN n)) := by rw [treeDel, List.eraseIdx_eq_take_drop_succ]

theorem putI_zero (t : List File) (n : Str) (l : List Str) : putI t n l 0 = [] := by simp [putI]
theorem putI_len (t : List File) (n : Str) (l : List Str) (i : Nat) (h : i ≤ t.length) : (putI t n l i).length = if (t.take i).any (gtN n) = true then i + 1 else i := by
  unfold putI
  split
  · rename_i ha
    have := findIdx_take ha
    simp
    omega
  · simp; omega

/-! ### Lines -/
def atL (a : List Str) (k : Int) (b : List Str) : Bool := decide (0 ≤ k) && (decide (k ≤ a.length) && (decide ((b.length : Int) ≤ a.length - k) && strsEq ((a.drop k.toNat).take b.length) b))
def swapL (a : List Str) (k : Int) (b c : List Str) : List Str × Bool := if atL a k b = true then (a.take k.toNat ++ c ++ a.drop (k.toNat + b.length), true) else ([], false)
def applyH (l : List Str) (h : Hunk) : List Str × Int := if hunkOk h = true then if atL l h.at_ h.old = true then (l.take h.at_.toNat ++ h.new ++ l.drop (h.at_.toNat + h.old.length), 0) else ([], 5) else ([], 1)

theorem applyH_len (l : List Str) (h : Hunk) : (applyH l h).1.length ≤ l.length + 200 := by
  unfold applyH
  split
  · rename_i ho
    simp only [hunkOk, linesOk, Bool.and_eq_true, decide_eq_true_eq] at ho
    split
    · simp; omega
    · simp
  · simp

/-! ### Changes -/
def hunkNone (h : Hunk) : Bool := h.at_ == 0 && decide (h.old.length = 0) && decide (h.new.length = 0)
def singleP (p : Prim) : Bool := nameOk p.name && decide (p.to = ⟨#[]⟩)
def mayP (p : Prim) : Bool :=
  if p.kind = 0 ∨ p.kind = 1 then singleP p && hunkNone p.h
  else if p.kind = 2 then nameOk p.name && nameOk p.to && !decide (p.name = p.to) && hunkNone p.h
  else if p.kind = 3 then singleP p && hunkOk p.h
  else if p.kind = 4 then singleP p && hunkOk p.h && p.h.at_ == 0
  else false
def addT (p : Prim) (t : List File) : List File × Int := if (treeGet t p.name).2 = true then ([], 5) else (treePut t p.name [], 0)
def rmT (p : Prim) (t : List File) : List File × Int := if (treeGet t p.name).2 = true ∧ (treeGet t p.name).1.length = 0 then (treeDel t p.name, 0) else ([], 5)
def moveT (p : Prim) (t : List File) : List File × Int := if (treeGet t p.name).2 = true ∧ (treeGet t p.to).2 = false then (treePut (treeDel t p.name) p.to (treeGet t p.name).1, 0) else ([], 5)
def patchT (p : Prim) (t : List File) : List File × Int := if (treeGet t p.name).2 = true then
    if (applyH (treeGet t p.name).1 p.h).2 = 0 then (treePut t p.name (applyH (treeGet t p.name).1 p.h).1, 0) else ([], (applyH (treeGet t p.name).1 p.h).2)
  else ([], 5)
def setT (p : Prim) (t : List File) : List File × Int := if (treeGet t p.name).2 = true ∧ (treeGet t p.name).1 = p.h.old then (treePut t p.name p.h.new, 0) else ([], 5)
def applyP (t : List File) (p : Prim) : List File × Int :=
  if mayP p = true then if p.kind = 0 then addT p t else if p.kind = 1 then rmT p t else if p.kind = 2 then moveT p t else if p.kind = 3 then patchT p t else setT p t
  else ([], 1)
end Go.Qm
