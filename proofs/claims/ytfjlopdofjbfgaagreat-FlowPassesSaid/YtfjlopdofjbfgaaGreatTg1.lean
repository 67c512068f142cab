/- The laws of lists of changes that pass one another. -/
import Derived.Test.YtfjlopdofjbfgaaGreatTe4
import Derived.Test.YtfjlopdofjbfgaaGreatTe3
import Derived.Test.YtfjlopdofjbfgaaGreatTe1
import Derived.Test.YtfjlopdofjbfgaaGreatTa7
import Derived.Test.YtfjlopdofjbfgaaGreatTc3
namespace Go.Proofs.YtfjlopdofjbfgaaGreat
open Go.Vam Go.Qm
set_option linter.unusedVariables false
set_option linter.unusedSimpArgs false
set_option maxRecDepth 8000
set_option maxHeartbeats 2000000

theorem passLT_some {a b : List Prim} (h : (passLT a b).2.2 = true) : passL a b = some ((passLT a b).1, (passLT a b).2.1) := by
  unfold passLT at h ⊢
  split at h
  · rename_i r e; exact e
  · simp at h
theorem passLT_of {a b f m : List Prim} (h : passL a b = some (f, m)) : passLT a b = (f, m, true) := by rw [passLT, h]
theorem passLT_none {a b : List Prim} (h : (passLT a b).2.2 = false) : passLT a b = ([], [], false) := by
  unfold passLT at h ⊢
  split at h
  · simp at h
  · rfl
theorem passLT_keep {a b : List Prim} (ka : ∀ p ∈ a, okP p) (kb : ∀ p ∈ b, okP p) : (∀ p ∈ (passLT a b).1, okP p) ∧ ∀ p ∈ (passLT a b).2.1, okP p := by
  unfold passLT
  split
  · rename_i r e; exact passL_keep okP_pass e ka kb
  · exact ⟨by simp, by simp⟩
theorem passLT_len {a b : List Prim} : (passLT a b).1.length ≤ b.length ∧ (passLT a b).2.1.length ≤ a.length := by
  unfold passLT
  split
  · rename_i r e; have := passL_len e; simp only; omega
  · simp
theorem okPs {l : List Prim} (b : primsB l) (r : ∀ p ∈ l, primR p) : ∀ p ∈ l, okP p := fun p hp => ⟨b.2 p hp, r p hp⟩
theorem few_at {l : List Prim} {n : Int} (h : few l n = true) : atMost 524288 l := fun p hp => by
  simp only [few, Bool.and_eq_true, List.all_eq_true] at h
  have := h.2 p hp
  simp only [Bool.and_eq_true, decide_eq_true_eq] at this
  exact this.2
def aw10p : Prim := ⟨0, ⟨#[97]⟩, ⟨#[]⟩, hunkZ⟩
def aw10q : Prim := ⟨0, ⟨#[98]⟩, ⟨#[]⟩, hunkZ⟩
def aw10r : Prim := ⟨1, ⟨#[97]⟩, ⟨#[]⟩, hunkZ⟩
theorem aw10a : runL [] [aw10p, aw10q] = ([⟨⟨#[97]⟩, []⟩, ⟨⟨#[98]⟩, []⟩], 0) := by kernel_rfl
theorem aw10b : passLT [aw10p] [aw10q] = ([aw10q], [aw10p], true) := by kernel_rfl
theorem aw10c : passLT [aw10p] [aw10r] = ([], [], false) := by kernel_rfl
theorem aw10_p : okP aw10p := ⟨⟨by simp [aw10p, hunkZ], by simp [aw10p, hunkZ]⟩, ⟨by simp [aw10p, i64], by decide, by decide, by simp [aw10p, hunkZ, i64], by simp [aw10p, hunkZ, strsZ], by simp [aw10p, hunkZ, strsZ]⟩⟩
theorem aw10_q : okP aw10q := ⟨⟨by simp [aw10q, hunkZ], by simp [aw10q, hunkZ]⟩, ⟨by simp [aw10q, i64], by decide, by decide, by simp [aw10q, hunkZ, i64], by simp [aw10q, hunkZ, strsZ], by simp [aw10q, hunkZ, strsZ]⟩⟩
theorem aw10_r : okP aw10r := ⟨⟨by simp [aw10r, hunkZ], by simp [aw10r, hunkZ]⟩, ⟨by simp [aw10r, i64], by decide, by decide, by simp [aw10r, hunkZ, i64], by simp [aw10r, hunkZ, strsZ], by simp [aw10r, hunkZ, strsZ]⟩⟩
theorem ok_awake10 : Ok Tryz.prog 5 [] (.v (boolA true)) := by
  have k1 : ∀ p ∈ [aw10p], okP p := by simpa using aw10_p
  have k2 : ∀ p ∈ [aw10q], okP p := by simpa using aw10_q
  have k3 : ∀ p ∈ [aw10r], okP p := by simpa using aw10_r
  have k4 : ∀ p ∈ [aw10p, aw10q], okP p := by simpa using ⟨aw10_p, aw10_q⟩
  (refine Ok.code hT hM (fn := Tryz.f5) rfl rfl rfl _ _ rfl rfl (Nat.le_of_ble_eq_true rfl) fun E hE hP ht h0 hrd => ?_; refine Go.run hE 9000 ?_; simp only [Tryz.f5, evX, reduceIte, reduceCtorEq, Nat.reduceLT, Nat.reduceAdd, Nat.reduceEqDiff, Nat.reduceBEq, Nat.reduceLeDiff, Nat.reduceMul, ttL, tyL, ht])
  refine AppG.by hE 9000 rfl rfl (by simp [rowLen]) (by simp) ?_
  simp only [evX, reduceIte, reduceCtorEq, Nat.reduceLT, Nat.reduceAdd, Nat.reduceEqDiff, Nat.reduceBEq, Nat.reduceLeDiff, Nat.reduceMul, ttL, tyL, ht]
  refine AppG.by hE 9000 rfl rfl (by simp [rowLen]) (by simp) ?_
  simp only [evX, reduceIte, reduceCtorEq, Nat.reduceLT, Nat.reduceAdd, Nat.reduceEqDiff, Nat.reduceBEq, Nat.reduceLeDiff, Nat.reduceMul, ttL, tyL, ht]
  (refine CallG.ok hE 9000 (hP ▸ ok_flowApply [] [aw10p, aw10q] (a := 0) (b := 0) ⟨by simp, by simp⟩ (by simp) (fun p hp => (k4 p hp).1) (fun p hp => (k4 p hp).2) (by decide) (by decide)) rfl rfl ?_ <;> simp only [evX, reduceIte, reduceCtorEq, Nat.reduceLT, Nat.reduceAdd, Nat.reduceEqDiff, Nat.reduceBEq, Nat.reduceLeDiff, Nat.reduceMul, ttL, tyL, ht])
  simp only [aw10a, evX, reduceIte, reduceCtorEq, Nat.reduceLT, Nat.reduceAdd, Nat.reduceEqDiff, Nat.reduceBEq, Nat.reduceLeDiff, Nat.reduceMul, ttL, tyL, ht]
  (refine CallG.ok hE 9000 (hP ▸ ok_flowPass [aw10p] [aw10q] (by simp) (by simp) k1 k2) rfl rfl ?_ <;> simp only [evX, reduceIte, reduceCtorEq, Nat.reduceLT, Nat.reduceAdd, Nat.reduceEqDiff, Nat.reduceBEq, Nat.reduceLeDiff, Nat.reduceMul, ttL, tyL, ht])
  simp only [aw10b, evX, reduceIte, reduceCtorEq, Nat.reduceLT, Nat.reduceAdd, Nat.reduceEqDiff, Nat.reduceBEq, Nat.reduceLeDiff, Nat.reduceMul, ttL, tyL, ht]
  (refine CallG.ok hE 9000 (hP ▸ ok_flowPass [aw10p] [aw10r] (by simp) (by simp) k1 k3) rfl rfl ?_ <;> simp only [evX, reduceIte, reduceCtorEq, Nat.reduceLT, Nat.reduceAdd, Nat.reduceEqDiff, Nat.reduceBEq, Nat.reduceLeDiff, Nat.reduceMul, ttL, tyL, ht])
  simp only [aw10c, evX, reduceIte, reduceCtorEq, Nat.reduceLT, Nat.reduceAdd, Nat.reduceEqDiff, Nat.reduceBEq, Nat.reduceLeDiff, Nat.reduceMul, ttL, tyL, ht]
  have c2 : (((2 : Nat) : Int) == 2) = true := rfl
  simp only [c2, evX, reduceIte, reduceCtorEq, Nat.reduceLT, Nat.reduceAdd, Nat.reduceEqDiff, Nat.reduceBEq, Nat.reduceLeDiff, Nat.reduceMul, ttL, tyL, ht, Int.reduceBEq, Bool.not_false]
  (refine CallG.ok hE 9000 (hP ▸ ok_flowSame [aw10q] [aw10q] (by simp) (fun p hp => (k2 p hp).1)) rfl rfl ?_ <;> simp only [evX, reduceIte, reduceCtorEq, Nat.reduceLT, Nat.reduceAdd, Nat.reduceEqDiff, Nat.reduceBEq, Nat.reduceLeDiff, Nat.reduceMul, ttL, tyL, ht])
  simp only [all2_refl, evX, reduceIte, reduceCtorEq, Nat.reduceLT, Nat.reduceAdd, Nat.reduceEqDiff, Nat.reduceBEq, Nat.reduceLeDiff, Nat.reduceMul, ttL, tyL, ht]
  (refine CallG.ok hE 9000 (hP ▸ ok_flowSame [aw10p] [aw10p] (by simp) (fun p hp => (k1 p hp).1)) rfl rfl ?_ <;> simp only [evX, reduceIte, reduceCtorEq, Nat.reduceLT, Nat.reduceAdd, Nat.reduceEqDiff, Nat.reduceBEq, Nat.reduceLeDiff, Nat.reduceMul, ttL, tyL, ht])
  simp only [all2_refl, evX, reduceIte, reduceCtorEq, Nat.reduceLT, Nat.reduceAdd, Nat.reduceEqDiff, Nat.reduceBEq, Nat.reduceLeDiff, Nat.reduceMul, ttL, tyL, ht]
  (refine CallG.ok hE 9000 (hP ▸ ok_flowMay [aw10p] (by simp) (fun p hp => (k1 p hp).1) (fun p hp => (k1 p hp).2)) rfl rfl ?_ <;> simp only [evX, reduceIte, reduceCtorEq, Nat.reduceLT, Nat.reduceAdd, Nat.reduceEqDiff, Nat.reduceBEq, Nat.reduceLeDiff, Nat.reduceMul, ttL, tyL, ht])
  have m1 : mayP aw10p = true := by kernel_rfl
  simp only [m1, evX, reduceIte, reduceCtorEq, Nat.reduceLT, Nat.reduceAdd, Nat.reduceEqDiff, Nat.reduceBEq, Nat.reduceLeDiff, Nat.reduceMul, ttL, tyL, ht]
  (refine CallG.ok hE 9000 (hP ▸ ok_Turn [aw10q] (by simp) (fun p hp => (k2 p hp).1)) rfl rfl ?_ <;> simp only [evX, reduceIte, reduceCtorEq, Nat.reduceLT, Nat.reduceAdd, Nat.reduceEqDiff, Nat.reduceBEq, Nat.reduceLeDiff, Nat.reduceMul, ttL, tyL, ht])

  exact RetQ.bool (.inr rfl) rfl rfl
end Go.Proofs.YtfjlopdofjbfgaaGreat
