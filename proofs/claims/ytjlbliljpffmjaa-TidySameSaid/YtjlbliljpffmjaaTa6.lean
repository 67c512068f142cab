/- The document's Tidy; Tight; the statements of layer 11. -/
import Derived.Test.YtjlbliljpffmjaaTa5
import Derived.Test.YtjlbliljpffmjaaG9
namespace Go.Proofs.Ytjlbliljpffmjaa
open Go.Vam Go.Qm
set_option linter.unusedVariables false
set_option linter.unusedSimpArgs false
set_option maxRecDepth 8000

theorem ok_Tight (l : List Prim) (hl : l.length * 96 ≤ 140737488355328) (hB : ∀ p ∈ l, primB p) : Ok Try.prog 41 [primsA l] (.v (boolA (decide ((tidyL l).length = l.length)))) := by
  (refine Ok.code hT hM (fn := Try.f41) rfl rfl rfl _ _ rfl rfl (Nat.le_of_ble_eq_true rfl) fun E hE hP ht h0 hrd => ?_; refine Go.run hE 9000 ?_; simp only [Try.f41, evX, reduceIte, reduceCtorEq, Nat.reduceLT, Nat.reduceAdd, Nat.reduceEqDiff, Nat.reduceBEq, Nat.reduceLeDiff, Nat.reduceMul, ttL, tyL, ht])
  (refine CallG.ok hE 9000 (hP ▸ ok_Tidy l hl hB) rfl rfl ?_ <;> simp only [evX, reduceIte, reduceCtorEq, Nat.reduceLT, Nat.reduceAdd, Nat.reduceEqDiff, Nat.reduceBEq, Nat.reduceLeDiff, Nat.reduceMul, ttL, tyL, ht])
  refine RetQ.bool (.inr rfl) rfl ?_
  rw [Bool.eq_iff_iff]
  simp only [List.length_map, beq_iff_eq, decide_eq_true_eq]
  omega
def aw11 : List Prim := [⟨0, ⟨#[97]⟩, ⟨#[]⟩, ⟨0, [], []⟩⟩, ⟨0, ⟨#[98]⟩, ⟨#[]⟩, ⟨0, [], []⟩⟩, ⟨1, ⟨#[98]⟩, ⟨#[]⟩, ⟨0, [], []⟩⟩, ⟨1, ⟨#[97]⟩, ⟨#[]⟩, ⟨0, [], []⟩⟩]
theorem aw11_B : ∀ p ∈ aw11, primB p := by
  intro p hp
  simp only [aw11, List.mem_cons, List.not_mem_nil, or_false] at hp
  rcases hp with rfl | rfl | rfl | rfl <;> exact ⟨by simp, by simp⟩
theorem aw11_len : aw11.length * 96 ≤ 140737488355328 := by simp [aw11]
theorem aw11_tidy : tidyL aw11 = [] ∧ (tidyL (aw11.take 1)).length = 1 ∧ (tidyL (aw11.take 2)).length = 2 := by decide +kernel
theorem ok_awake11 : Ok Try.prog 20 [] (.v (boolA true)) := by
  (refine Ok.code hT hM (fn := Try.f20) rfl rfl rfl _ _ rfl rfl (Nat.le_of_ble_eq_true rfl) fun E hE hP ht h0 hrd => ?_; refine Go.run hE 9000 ?_; simp only [Try.f20, evX, reduceIte, reduceCtorEq, Nat.reduceLT, Nat.reduceAdd, Nat.reduceEqDiff, Nat.reduceBEq, Nat.reduceLeDiff, Nat.reduceMul, ttL, tyL, ht])
  (refine CallG.ok hE 9000 (hP ▸ ok_Tidy aw11 aw11_len aw11_B) rfl rfl ?_ <;> simp only [evX, reduceIte, reduceCtorEq, Nat.reduceLT, Nat.reduceAdd, Nat.reduceEqDiff, Nat.reduceBEq, Nat.reduceLeDiff, Nat.reduceMul, ttL, tyL, ht])
  have e1 : (((tidyL aw11).length : Int) == 0) = true := by rw [aw11_tidy.1]; rfl
  simp only [e1, evX, reduceIte, reduceCtorEq, Nat.reduceLT, Nat.reduceAdd, Nat.reduceEqDiff, Nat.reduceBEq, Nat.reduceLeDiff, Nat.reduceMul, ttL, tyL, ht]
  (refine CallG.ok hE 9000 (hP ▸ ok_Tight aw11 aw11_len aw11_B) rfl rfl ?_ <;> simp only [evX, reduceIte, reduceCtorEq, Nat.reduceLT, Nat.reduceAdd, Nat.reduceEqDiff, Nat.reduceBEq, Nat.reduceLeDiff, Nat.reduceMul, ttL, tyL, ht])
  have e2 : decide ((tidyL aw11).length = aw11.length) = false := by rw [aw11_tidy.1]; rfl
  simp only [e2, evX, reduceIte, reduceCtorEq, Nat.reduceLT, Nat.reduceAdd, Nat.reduceEqDiff, Nat.reduceBEq, Nat.reduceLeDiff, Nat.reduceMul, ttL, tyL, ht]
  refine HardOp.frz hE 9000 17 rfl rfl rfl ?_
  simp only [evX, reduceIte, reduceCtorEq, Nat.reduceLT, Nat.reduceAdd, Nat.reduceEqDiff, Nat.reduceBEq, Nat.reduceLeDiff, Nat.reduceMul, ttL, tyL, ht]
  refine SlcR.by hE 9000 (rowLen_prims aw11) (by decide) (by decide) (by decide) ?_
  simp only [evX, reduceIte, reduceCtorEq, Nat.reduceLT, Nat.reduceAdd, Nat.reduceEqDiff, Nat.reduceBEq, Nat.reduceLeDiff, Nat.reduceMul, ttL, tyL, ht]
  (refine CallG.ok hE 9000 (hP ▸ ok_Tidy (aw11.take 1) (by simp [aw11]) (fun p hp => aw11_B p (List.mem_of_mem_take hp))) rfl rfl ?_ <;> simp only [evX, reduceIte, reduceCtorEq, Nat.reduceLT, Nat.reduceAdd, Nat.reduceEqDiff, Nat.reduceBEq, Nat.reduceLeDiff, Nat.reduceMul, ttL, tyL, ht])
  have e3 : (((tidyL (aw11.take 1)).length : Int) == 1) = true := by rw [aw11_tidy.2.1]; rfl
  simp only [e3, evX, reduceIte, reduceCtorEq, Nat.reduceLT, Nat.reduceAdd, Nat.reduceEqDiff, Nat.reduceBEq, Nat.reduceLeDiff, Nat.reduceMul, ttL, tyL, ht]
  refine HardOp.frz hE 9000 24 rfl rfl rfl ?_
  simp only [evX, reduceIte, reduceCtorEq, Nat.reduceLT, Nat.reduceAdd, Nat.reduceEqDiff, Nat.reduceBEq, Nat.reduceLeDiff, Nat.reduceMul, ttL, tyL, ht]
  refine SlcR.by hE 9000 (rowLen_prims aw11) (by decide) (by decide) (by decide) ?_
  simp only [evX, reduceIte, reduceCtorEq, Nat.reduceLT, Nat.reduceAdd, Nat.reduceEqDiff, Nat.reduceBEq, Nat.reduceLeDiff, Nat.reduceMul, ttL, tyL, ht]
  (refine CallG.ok hE 9000 (hP ▸ ok_Tight (aw11.take 2) (by simp [aw11]) (fun p hp => aw11_B p (List.mem_of_mem_take hp))) rfl rfl ?_ <;> simp only [evX, reduceIte, reduceCtorEq, Nat.reduceLT, Nat.reduceAdd, Nat.reduceEqDiff, Nat.reduceBEq, Nat.reduceLeDiff, Nat.reduceMul, ttL, tyL, ht])
  exact RetQ.bool (.inr rfl) rfl (by rw [aw11_tidy.2.2]; rfl)
end Go.Proofs.Ytjlbliljpffmjaa
