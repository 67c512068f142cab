/- The statements of layer 11. -/
import Derived.Test.YtfjlopdofjbfgaaGreatTa6
namespace Go.Proofs.YtfjlopdofjbfgaaGreat
open Go.Vam Go.Qm
set_option linter.unusedVariables false
set_option linter.unusedSimpArgs false
set_option maxRecDepth 8000

theorem ok_EqualFuncP (a b : List Prim) (hl : a.length < 9223372036854775807) (hB : ∀ p ∈ a, primB p) : Ok Tryz.prog 32 [primsA a, primsA b, .c (.fn 33 [])] (.v (boolA (all2 primEq a b))) := by
  (refine Ok.code hT hM (fn := Tryz.f32) rfl rfl rfl _ _ rfl rfl (Nat.le_of_ble_eq_true rfl) fun E hE hP ht h0 hrd => ?_; refine Go.run hE 9000 ?_; simp only [Tryz.f32, evX, reduceIte, reduceCtorEq, Nat.reduceLT, Nat.reduceAdd, Nat.reduceEqDiff, Nat.reduceBEq, Nat.reduceLeDiff, Nat.reduceMul, ttL, tyL, ht])
  ((first | refine SelF.byN (fun hb => ?_) (fun hb => ?_) | refine SelF.by (fun hb => ?_) (fun hb => ?_)) <;> simp only [hb, evX, reduceIte, reduceCtorEq, Nat.reduceLT, Nat.reduceAdd, Nat.reduceEqDiff, Nat.reduceBEq, Nat.reduceLeDiff, Nat.reduceMul, ttL, tyL, ht])
  · exact RetQ.bool (.inr rfl) rfl (all2_ne (by simp at hb; omega)).symm
  · have hlen : a.length = b.length := by simp at hb; omega
    refine Loop.by hE (ι := {i : Nat // i ≤ a.length ∧ all2 primEq (a.take i) (b.take i) = true}) (fun i => ⟨32, [(1, primsA b), (2, .c (.fn 33 [])), (15, primsA a), (16, intA a.length), (17, intA i.1)], [], [], []⟩) (fun i => a.length - i.1) ⟨0, by simp [all2]⟩ 9000 ⟨[], Wk.of rfl (by simp) (by rw [h0]; trivial) (by simp [wkT, okA, wkP, cloE, Vam.look]) (by simp [wkBs]) (by simp) (by simp)⟩ (by simp [h0]) ?_
    rintro ⟨i, hi, hall⟩
    simp only [evX, reduceIte, reduceCtorEq, Nat.reduceLT, Nat.reduceAdd, Nat.reduceEqDiff, Nat.reduceBEq, Nat.reduceLeDiff, Nat.reduceMul, ttL, tyL, ht]
    ((first | refine SelF.byN (fun hb => ?_) (fun hb => ?_) | refine SelF.by (fun hb => ?_) (fun hb => ?_)) <;> simp only [hb, evX, reduceIte, reduceCtorEq, Nat.reduceLT, Nat.reduceAdd, Nat.reduceEqDiff, Nat.reduceBEq, Nat.reduceLeDiff, Nat.reduceMul, ttL, tyL, ht])
    · simp only [decide_eq_true_eq] at hb
      have hlt : i < a.length := by omega
      have hlt2 : i < b.length := by omega
      refine IdxR.nat hE 9000 hlt rfl ?_
      simp only [evX, reduceIte, reduceCtorEq, Nat.reduceLT, Nat.reduceAdd, Nat.reduceEqDiff, Nat.reduceBEq, Nat.reduceLeDiff, Nat.reduceMul, ttL, tyL, ht]
      (refine StG.by hE ht 9000 rfl ?_ <;> simp only [evX, reduceIte, reduceCtorEq, Nat.reduceLT, Nat.reduceAdd, Nat.reduceEqDiff, Nat.reduceBEq, Nat.reduceLeDiff, Nat.reduceMul, ttL, tyL, ht])
      refine IdxR.nat hE 9000 hlt2 rfl ?_
      simp only [evX, reduceIte, reduceCtorEq, Nat.reduceLT, Nat.reduceAdd, Nat.reduceEqDiff, Nat.reduceBEq, Nat.reduceLeDiff, Nat.reduceMul, ttL, tyL, ht]
      (refine StG.by hE ht 9000 rfl ?_ <;> simp only [evX, reduceIte, reduceCtorEq, Nat.reduceLT, Nat.reduceAdd, Nat.reduceEqDiff, Nat.reduceBEq, Nat.reduceLeDiff, Nat.reduceMul, ttL, tyL, ht])
      (refine CallG.ok hE 9000 (hP ▸ ok_sameP a[i] b[i] (hB _ (List.getElem_mem hlt))) rfl rfl ?_ <;> simp only [evX, reduceIte, reduceCtorEq, Nat.reduceLT, Nat.reduceAdd, Nat.reduceEqDiff, Nat.reduceBEq, Nat.reduceLeDiff, Nat.reduceMul, ttL, tyL, ht])
      ((first | refine SelF.byN (fun hb => ?_) (fun hb => ?_) | refine SelF.by (fun hb => ?_) (fun hb => ?_)) <;> simp only [hb, evX, reduceIte, reduceCtorEq, Nat.reduceLT, Nat.reduceAdd, Nat.reduceEqDiff, Nat.reduceBEq, Nat.reduceLeDiff, Nat.reduceMul, ttL, tyL, ht])
      · exact RetQ.bool (.inr rfl) rfl (all2_at hlt hlt2 hb).symm
      · refine ⟨⟨i + 1, by omega, by rw [all2_take hlt hlt2, hall]; simpa using hb⟩, [], Wk.of rfl (by simp) (by rw [h0]; trivial) (by simp [wkT, okA, wkP, cloE, Vam.look, wrapN i (by omega)]) (by simp [wkBs]) (by simp) (by simp), by simp only; omega⟩
    · exact RetQ.bool (.inr rfl) rfl (all2_full hi (by simpa using hb) hlen hall).symm
theorem ok_flowSame (a b : List Prim) (hl : a.length < 9223372036854775807) (hB : ∀ p ∈ a, primB p) : Ok Tryz.prog 16 [primsA a, primsA b] (.v (boolA (all2 primEq a b))) := by
  (refine Ok.code hT hM (fn := Tryz.f16) rfl rfl rfl _ _ rfl rfl (Nat.le_of_ble_eq_true rfl) fun E hE hP ht h0 hrd => ?_; refine Go.run hE 9000 ?_; simp only [Tryz.f16, evX, reduceIte, reduceCtorEq, Nat.reduceLT, Nat.reduceAdd, Nat.reduceEqDiff, Nat.reduceBEq, Nat.reduceLeDiff, Nat.reduceMul, ttL, tyL, ht])
  (refine CallG.ok hE 9000 (hP ▸ ok_EqualFuncP a b hl hB) rfl rfl ?_ <;> simp only [evX, reduceIte, reduceCtorEq, Nat.reduceLT, Nat.reduceAdd, Nat.reduceEqDiff, Nat.reduceBEq, Nat.reduceLeDiff, Nat.reduceMul, ttL, tyL, ht])
  exact RetQ.bool (.inr rfl) rfl rfl
theorem turnL_B {l : List Prim} (hB : ∀ p ∈ l, primB p) : ∀ p ∈ turnL l, primB p := by
  intro p hp
  obtain ⟨q, hq, rfl⟩ := List.mem_map.1 hp
  exact turnP_B (hB q (by simpa using hq))
end Go.Proofs.YtfjlopdofjbfgaaGreat
