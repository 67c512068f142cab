/- Changes: the document's answer; the law's first steps. -/
import Derived.Test.YtmijejoddoolpaaTc2
import Derived.Test.YtmijejoddoolpaaTb5
namespace Go.Proofs.Ytmijejoddoolpaa
open Go.Vam Go.Qm
set_option linter.unusedVariables false
set_option linter.unusedSimpArgs false
set_option maxRecDepth 8000

theorem ok_rMay (p : Prim) (hB : primB p) (hR : primR p) : Ok Try.prog 57 [primA p] (.v (boolA (mayP p))) := by
  obtain ⟨k, n, m, h⟩ := p
  have hc : (n == m) = decide (n = m) := str_beq n m
  have hc2 : (m == n) = decide (n = m) := by rw [str_beq, decide_eq_decide]; exact eq_comm
  have hc3 : (m == ⟨#[]⟩) = decide (m = ⟨#[]⟩) := str_beq m _
  (refine Ok.code hT hM (fn := Try.f57) rfl rfl rfl _ _ rfl rfl (Nat.le_of_ble_eq_true rfl) fun E hE hP ht h0 hrd => ?_; refine Go.run hE 9000 ?_; simp only [Try.f57, evX, reduceIte, reduceCtorEq, Nat.reduceLT, Nat.reduceAdd, Nat.reduceEqDiff, Nat.reduceBEq, Nat.reduceLeDiff, Nat.reduceMul, ttL, tyL, ht])
  (refine CallG.ok hE 9000 (hP ▸ ok_ref01Name n hR.name) rfl rfl ?_ <;> simp only [evX, reduceIte, reduceCtorEq, Nat.reduceLT, Nat.reduceAdd, Nat.reduceEqDiff, Nat.reduceBEq, Nat.reduceLeDiff, Nat.reduceMul, ttL, tyL, ht])
  (refine CallG.ok hE 9000 (hP ▸ ok_ref01Name m hR.to) rfl rfl ?_ <;> simp only [evX, reduceIte, reduceCtorEq, Nat.reduceLT, Nat.reduceAdd, Nat.reduceEqDiff, Nat.reduceBEq, Nat.reduceLeDiff, Nat.reduceMul, ttL, tyL, ht])
  (refine CallG.ok hE 9000 (hP ▸ ok_ref05May h hB hR.h) rfl rfl ?_ <;> simp only [evX, reduceIte, reduceCtorEq, Nat.reduceLT, Nat.reduceAdd, Nat.reduceEqDiff, Nat.reduceBEq, Nat.reduceLeDiff, Nat.reduceMul, ttL, tyL, ht])
  (refine CallG.ok hE 9000 (hP ▸ ok_ref08none h) rfl rfl ?_ <;> simp only [evX, reduceIte, reduceCtorEq, Nat.reduceLT, Nat.reduceAdd, Nat.reduceEqDiff, Nat.reduceBEq, Nat.reduceLeDiff, Nat.reduceMul, ttL, tyL, ht])
  by_cases hk : k = 0 ∨ k = 1 ∨ k = 2 ∨ k = 3 ∨ k = 4
  · rcases hk with rfl | rfl | rfl | rfl | rfl <;> simp only [evX, reduceIte, reduceCtorEq, Nat.reduceLT, Nat.reduceAdd, Nat.reduceEqDiff, Nat.reduceBEq, Nat.reduceLeDiff, Nat.reduceMul, ttL, tyL, ht, Int.reduceBEq]
    all_goals repeat' ((first | refine SelF.byN (fun hb => ?_) (fun hb => ?_) | refine SelF.by (fun hb => ?_) (fun hb => ?_)) <;> simp only [hb, evX, reduceIte, reduceCtorEq, Nat.reduceLT, Nat.reduceAdd, Nat.reduceEqDiff, Nat.reduceBEq, Nat.reduceLeDiff, Nat.reduceMul, ttL, tyL, ht])
    all_goals exact RetQ.bool (.inr rfl) rfl (by simp_all [mayP, singleP])
  · have k0 : (k == 0) = false := by rw [beq_eq_false_iff_ne]; omega
    have k1 : (k == 1) = false := by rw [beq_eq_false_iff_ne]; omega
    have k2 : (k == 2) = false := by rw [beq_eq_false_iff_ne]; omega
    have k3 : (k == 3) = false := by rw [beq_eq_false_iff_ne]; omega
    have k4 : (k == 4) = false := by rw [beq_eq_false_iff_ne]; omega
    simp only [evX, reduceIte, reduceCtorEq, Nat.reduceLT, Nat.reduceAdd, Nat.reduceEqDiff, Nat.reduceBEq, Nat.reduceLeDiff, Nat.reduceMul, ttL, tyL, ht, k0, k1, k2, k3, k4]
    exact RetQ.bool (.inr rfl) rfl (by rw [mayP, if_neg (by simp only; omega), if_neg (by simp only; omega), if_neg (by simp only; omega), if_neg (by simp only; omega)])
def aw8p : Prim := ⟨0, ⟨#[97]⟩, ⟨#[]⟩, ⟨0, [], []⟩⟩
def aw8q : Prim := ⟨3, ⟨#[97]⟩, ⟨#[]⟩, ⟨0, [], [⟨#[120]⟩]⟩⟩
theorem aw8a : applyP [] aw8p = ([⟨⟨#[97]⟩, []⟩], 0) := by kernel_rfl
theorem aw8b : applyP [⟨⟨#[97]⟩, []⟩] aw8q = ([⟨⟨#[97]⟩, [⟨#[120]⟩]⟩], 0) := by kernel_rfl
end Go.Proofs.Ytmijejoddoolpaa
