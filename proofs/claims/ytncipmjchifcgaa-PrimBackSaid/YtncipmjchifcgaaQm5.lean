/- Trees. -/
import Derived.Test.YtncipmjchifcgaaQm4
namespace Go.Qm
open Go.RowKit Go.Vam
set_option linter.unusedSimpArgs false
set_option linter.unusedVariables false

def strLe (a b : Str) : Bool := Op.bytesLess a.toList b.toList || a == b
def isN (n : Str) (f : File) : Bool := decide (f.name = n)
def gtN (n : Str) (f : File) : Bool := !strLe f.name n
def treeGet (t : List File) (n : Str) : List Str × Bool := match t.find? (isN n) with
  | some f => (f.lines, true)
  | none => ([], false)
def treePut (t : List File) (n : Str) (l : List Str) : List File :=
  if t.any (isN n) = true then t.set (t.findIdx (isN n)) ⟨n, l⟩ else t.take (t.findIdx (gtN n)) ++ [⟨n, l⟩] ++ t.drop (t.findIdx (gtN n))
def treeDel (t : List File) (n : Str) : List File := t.take (t.findIdx (isN n)) ++ t.drop (t.findIdx (isN n) + 1)
def fileEq (a b : File) : Bool := decide (a.name = b.name) && strsEq a.lines b.lines
def treeEq (a b : List File) : Bool := all2 fileEq a b
def fileMay (t : List File) (i : Nat) (f : File) : Bool := nameOk f.name && linesOk f.lines && !(decide (0 < i) && strLe f.name ((t[i - 1]?).map (·.name)|>.getD ⟨#[]⟩))
def treeMay (t : List File) : Bool := (t.mapIdx (fileMay t)).all id && decide ((t.length : Int) ≤ 30)
def treeLight (t : List File) : Bool := decide ((t.length : Int) ≤ 40) && t.all fun f => lightS f.lines 300 && decide ((f.name.size : Int) ≤ 100)

theorem rowLen_tree (t : List File) : rowLen 2 (treeC t) := by
  intro row h
  obtain ⟨s, _, rfl⟩ := List.mem_map.1 h
  rfl
theorem findIdx_lt {t : List File} {f : File → Bool} : (decide ((t.findIdx f : Int) < t.length)) = t.any f := by
  rw [Bool.eq_iff_iff, decide_eq_true_eq, List.any_eq_true]
  constructor
  · intro h
    have h' : t.findIdx f < t.length := by omega
    exact ⟨_, List.getElem_mem h', List.findIdx_getElem⟩
  · rintro ⟨x, hx, hf⟩
    have := List.findIdx_lt_length_of_exists ⟨x, hx, hf⟩
    omega
theorem treeGet_at {t : List File} {n : Str} (h : t.findIdx (isN n) < t.length) : treeGet t n = (t[t.findIdx (isN n)].lines, true) := by
  unfold treeGet
  have : t.find? (isN n) = some t[t.findIdx (isN n)] := by
    rw [List.find?_eq_some_iff_getElem]
    refine ⟨List.findIdx_getElem (w := h), _, h, rfl, fun j hj => ?_⟩
    have := List.not_of_lt_findIdx hj
    simpa using this
  rw [this]
theorem treeGet_none {t : List File} {n : Str} (h : t.any (isN n) = false) : treeGet t n = ([], false) := by
  unfold treeGet
  rw [List.any_eq_false] at h
  rw [List.find?_eq_none.2 (fun x hx => h x hx)]
theorem idxI_findIdx {t : List File} {f : File → Bool} : (if decide (idxI f t ≥ 0) = true then idxI f t else (t.length : Int)) = t.findIdx f := by
  rw [idxI_nn]
  unfold idxI
  cases h : t.any f with
  | true => rfl
  | false =>
    rw [List.any_eq_false] at h
    rw [List.findIdx_eq_length.2 (fun x hx => by simpa using h x hx)]
    rfl
end Go.Qm
