/- The laws of changes that pass one another. -/
import Derived.Test.YtfjlopdofjbfgaaGreatTd4
import Derived.Test.YtfjlopdofjbfgaaGreatG10
namespace Go.Proofs.YtfjlopdofjbfgaaGreat
open Go.Vam Go.Qm
set_option linter.unusedVariables false
set_option linter.unusedSimpArgs false
set_option maxRecDepth 8000
set_option maxHeartbeats 2000000

theorem primZ_B : primB primZ := ⟨by simp [primZ, hunkZ], by simp [primZ, hunkZ]⟩
theorem primZ_R : primR primZ := ⟨by simp [primZ, i64], by decide, by decide, by simp [primZ, hunkZ, i64], by simp [primZ, hunkZ, strsZ], by simp [primZ, hunkZ, strsZ]⟩
theorem passH_R {p q x y : Hunk} (rp : hunkR p) (rq : hunkR q) (h : PassesH p q x y) : hunkR x ∧ hunkR y := by
  obtain ⟨a1, a2, a3, a4, _⟩ := passesH_at h
  obtain ⟨o1, o2⟩ := passH_ok h
  have o1 := hunkOk_at o1
  have o2 := hunkOk_at o2
  exact ⟨⟨by unfold i64; omega, by rw [a1]; exact rq.old, by rw [a2]; exact rq.new⟩, ⟨by unfold i64; omega, by rw [a3]; exact rp.old, by rw [a4]; exact rp.new⟩⟩
theorem pass_B {p q x y : Prim} (h : passP p q = some (x, y)) (bp : primB p) (bq : primB q) : primB x ∧ primB y := by
  obtain ⟨-, -, a, b, -, -, c, d⟩ := pass_kinds h
  exact ⟨⟨by rw [a]; exact bq.1, by rw [b]; exact bq.2⟩, ⟨by rw [c]; exact bp.1, by rw [d]; exact bp.2⟩⟩
theorem pass_R {p q x y : Prim} (h : passP p q = some (x, y)) (rp : primR p) (rq : primR q) : primR x ∧ primR y := by
  cases (passP_iff.1 h).2.2 with
  | apart ha hx hy => rw [hx, hy]; exact ⟨rq, rp⟩
  | patch a b hn hk hk2 hh hx hy =>
    obtain ⟨r1, r2⟩ := passH_R rp.h rq.h hh
    rw [hx, hy]
    exact ⟨⟨rq.kind, rq.name, rq.to, r1⟩, ⟨rp.kind, rp.name, rp.to, r2⟩⟩
  | after hk hl hn hx hy => rw [hx, hy]; exact ⟨⟨rq.kind, rp.name, rq.to, rq.h⟩, rp⟩
  | before hk hl hn hx hy => rw [hx, hy]; exact ⟨rq, ⟨rp.kind, rq.to, rp.to, rp.h⟩⟩
theorem passPT_B {p q : Prim} (bp : primB p) (bq : primB q) : primB (passPT p q).1 ∧ primB (passPT p q).2.1 := by
  unfold passPT
  split
  · rename_i r e; exact pass_B e bp bq
  · exact ⟨primZ_B, primZ_B⟩
theorem passPT_R {p q : Prim} (rp : primR p) (rq : primR q) : primR (passPT p q).1 ∧ primR (passPT p q).2.1 := by
  unfold passPT
  split
  · rename_i r e; exact pass_R e rp rq
  · exact ⟨primZ_R, primZ_R⟩
theorem passPT_some {p q : Prim} (h : (passPT p q).2.2 = true) : passP p q = some ((passPT p q).1, (passPT p q).2.1) := by
  unfold passPT at h ⊢
  split at h
  · rename_i r e; exact e
  · simp at h
theorem passPT_of {p q x y : Prim} (h : passP p q = some (x, y)) : passPT p q = (x, y, true) := by rw [passPT, h]
theorem passPT_none {p q : Prim} (h : (passPT p q).2.2 = false) : passPT p q = (primZ, primZ, false) := by
  unfold passPT at h ⊢
  split at h
  · simp at h
  · rfl

def aw9p : Prim := ⟨2, ⟨#[97]⟩, ⟨#[98]⟩, hunkZ⟩
def aw9q : Prim := ⟨3, ⟨#[98]⟩, ⟨#[]⟩, ⟨0, [], [⟨#[120]⟩]⟩⟩
def aw9r : Prim := ⟨0, ⟨#[97]⟩, ⟨#[]⟩, hunkZ⟩
def aw9s : Prim := ⟨1, ⟨#[97]⟩, ⟨#[]⟩, hunkZ⟩
theorem aw9a : passPT aw9p aw9q = (⟨3, ⟨#[97]⟩, ⟨#[]⟩, ⟨0, [], [⟨#[120]⟩]⟩⟩, aw9p, true) := by kernel_rfl
theorem aw9b : passPT aw9r aw9s = (primZ, primZ, false) := by kernel_rfl
end Go.Proofs.YtfjlopdofjbfgaaGreat
