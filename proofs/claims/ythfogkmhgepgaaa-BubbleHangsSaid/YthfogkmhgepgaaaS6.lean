/- The program's functions, walked (part 6). -/
import Derived.Test.YthfogkmhgepgaaaS2
import Derived.Test.YthfogkmhgepgaaaS1
import Derived.Test.YthfogkmhgepgaaaG11
import Derived.Test.YthfogkmhgepgaaaS5
import Derived.Test.YthfogkmhgepgaaaG12
/- Trees: the document's functions upon them; which trees may be. -/
namespace Go.Proofs.Ythfogkmhgepgaaa
open Go.Vam Go.Qm
set_option linter.unusedVariables false
set_option linter.unusedSimpArgs false
set_option maxRecDepth 8000

theorem findIdx_in {t : List File} {n : Str} (h : t.any (isN n) = true) : t.findIdx (isN n) < t.length := by have := findIdx_lt (t := t) (f := isN n); rw [h] at this; simpa using this
theorem mapIdx_at {t : List File} {i : Nat} (h : i < t.length) (hf : fileMay t i t[i] = false) : treeMay t = false := by
  unfold treeMay
  have : (t.mapIdx (fileMay t)).all id = false := by
    rw [List.all_eq_false]
    exact ⟨_, List.mem_mapIdx.2 ⟨i, h, rfl⟩, by simp [hf]⟩
  rw [this]; rfl
theorem may_step {t : List File} {i : Nat} {hlt : i < t.length} (hall : ∀ (j : Nat) (hj : j < t.length), j < i → fileMay t j t[j] = true) (h : fileMay t i t[i] = true) : ∀ (j : Nat) (hj : j < t.length), j < i + 1 → fileMay t j t[j] = true := fun j hj hji => by
  rcases Nat.lt_succ_iff_lt_or_eq.1 hji with h' | h'
  · exact hall j hj h'
  · subst h'
    exact h
theorem treeMay_all {t : List File} (h : ∀ (i : Nat) (hi : i < t.length), fileMay t i t[i] = true) : treeMay t = decide ((t.length : Int) ≤ 30) := by
  unfold treeMay
  have : (t.mapIdx (fileMay t)).all id = true := by
    rw [List.all_eq_true]
    intro x hx
    obtain ⟨i, hi, rfl⟩ := List.mem_mapIdx.1 hx
    exact h i hi
  rw [this, Bool.true_and]
end Go.Proofs.Ythfogkmhgepgaaa

/- Changes: the document's answer; the law's first steps. -/
namespace Go.Proofs.Ythfogkmhgepgaaa
open Go.Vam Go.Qm
set_option linter.unusedVariables false
set_option linter.unusedSimpArgs false
set_option maxRecDepth 8000

def aw8p : Prim := ⟨0, ⟨#[97]⟩, ⟨#[]⟩, ⟨0, [], []⟩⟩
def aw8q : Prim := ⟨3, ⟨#[97]⟩, ⟨#[]⟩, ⟨0, [], [⟨#[120]⟩]⟩⟩
theorem aw8a : applyP [] aw8p = ([⟨⟨#[97]⟩, []⟩], 0) := by kernel_rfl
theorem aw8b : applyP [⟨⟨#[97]⟩, []⟩] aw8q = ([⟨⟨#[97]⟩, [⟨#[120]⟩]⟩], 0) := by kernel_rfl
end Go.Proofs.Ythfogkmhgepgaaa

/- Named patches: what the functions upon them tell. -/
namespace Go.Proofs.Ythfogkmhgepgaaa
open Go.Vam Go.Qm
set_option linter.unusedVariables false
set_option linter.unusedSimpArgs false
set_option maxRecDepth 8000
set_option maxHeartbeats 1000000

theorem eqT : EqT Try.prog 29 :=
  EqT.ofB (ti := 3) (i := ty3) (by kernel_rfl) (by kernel_rfl) (by kernel_rfl) (by kernel_rfl) (by kernel_rfl) (hT 3 ty3 tt3) rfl
theorem dep_pairs {l : List Qm.Id} {i : Nat} (h : ∀ j (h : j + 1 < l.length), j + 1 < i → idLess l[j] l[j + 1] = true) (hlt : i < l.length) (hl : ∀ h0 : 0 < i, idLess l[i - 1] l[i] = true) : ∀ j (h : j + 1 < l.length), j + 1 < i + 1 → idLess l[j] l[j + 1] = true := fun j hj h' => by
  rcases Nat.lt_or_ge (j + 1) i with h2 | h2
  · exact h j hj h2
  · have e : j + 1 = i := by omega
    subst e
    exact hl (by omega)
end Go.Proofs.Ythfogkmhgepgaaa
