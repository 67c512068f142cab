/- Changes, one behind the other: whether they may be. -/
import Derived.Test.YtfjlopdofjbfgaaGreatTc3
namespace Go.Proofs.YtfjlopdofjbfgaaGreat
open Go.Vam Go.Qm
set_option linter.unusedVariables false
set_option linter.unusedSimpArgs false
set_option maxRecDepth 8000

theorem ok_IndexFuncP (l : List Prim) (g : Nat) (caps : List (List C)) (f : Prim → Bool) (hl : l.length < 9223372036854775807) (hok : ∀ s ∈ l, Ok Tryz.prog g (primA s :: caps.map .pt) (.v (boolA (f s)))) :
    Ok Tryz.prog 50 [primsA l, .c (.fn g caps)] (.v (intA (idxI f l))) := by
  (refine Ok.code hT hM (fn := Tryz.f50) rfl rfl rfl _ _ rfl rfl (Nat.le_of_ble_eq_true rfl) fun E hE hP ht h0 hrd => ?_; refine Go.run hE 9000 ?_; simp only [Tryz.f50, evX, reduceIte, reduceCtorEq, Nat.reduceLT, Nat.reduceAdd, Nat.reduceEqDiff, Nat.reduceBEq, Nat.reduceLeDiff, Nat.reduceMul, ttL, tyL, ht])
  refine Loop.by hE (ι := {i : Nat // i ≤ l.length ∧ (l.take i).any f = false}) (fun i => ⟨19, [(0, primsA l), (1, .c (.fn g caps)), (7, intA l.length), (8, intA i.1)], [], [], []⟩) (fun i => l.length - i.1) ⟨0, by simp⟩ 9000 ⟨[], Wk.of rfl (by simp) (by rw [h0]; simp [fixB]) (by simp [wkT, okA, wkP, cloE, Vam.look, sig, ]) (by simp [wkBs, setBx, nthB, wkBx, wkL, okA, wkP, cloE, sig, ]) (by simp) (by simp)⟩ (by simp [h0]) ?_
  rintro ⟨i, hi, hall⟩
  simp only [evX, reduceIte, reduceCtorEq, Nat.reduceLT, Nat.reduceAdd, Nat.reduceEqDiff, Nat.reduceBEq, Nat.reduceLeDiff, Nat.reduceMul, ttL, tyL, ht]
  ((first | refine SelF.byN (fun hb => ?_) (fun hb => ?_) | refine SelF.by (fun hb => ?_) (fun hb => ?_)) <;> simp only [hb, evX, reduceIte, reduceCtorEq, Nat.reduceLT, Nat.reduceAdd, Nat.reduceEqDiff, Nat.reduceBEq, Nat.reduceLeDiff, Nat.reduceMul, ttL, tyL, ht])
  · simp only [decide_eq_true_eq] at hb
    have hlt : i < l.length := by omega
    refine IdxR.nat hE 9000 hlt rfl ?_
    simp only [evX, reduceIte, reduceCtorEq, Nat.reduceLT, Nat.reduceAdd, Nat.reduceEqDiff, Nat.reduceBEq, Nat.reduceLeDiff, Nat.reduceMul, ttL, tyL, ht]
    refine CallG.ok hE 9000 (hP ▸ hok l[i] (List.getElem_mem hlt)) (by rw [← mapN_eq]; rfl) rfl ?_
    simp only [evX, reduceIte, reduceCtorEq, Nat.reduceLT, Nat.reduceAdd, Nat.reduceEqDiff, Nat.reduceBEq, Nat.reduceLeDiff, Nat.reduceMul, ttL, tyL, ht]
    ((first | refine SelF.byN (fun hb => ?_) (fun hb => ?_) | refine SelF.by (fun hb => ?_) (fun hb => ?_)) <;> simp only [hb, evX, reduceIte, reduceCtorEq, Nat.reduceLT, Nat.reduceAdd, Nat.reduceEqDiff, Nat.reduceBEq, Nat.reduceLeDiff, Nat.reduceMul, ttL, tyL, ht])
    · exact RetQ.c (.inr rfl) rfl (by rw [idxI_at hlt hall hb])
    · refine ⟨⟨i + 1, by omega, by rw [any_take hlt, hall, hb]; rfl⟩, [], Wk.of rfl (by simp) (by rw [h0]; simp [fixB]) (by simp [wkT, okA, wkP, cloE, Vam.look, sig, wrapN i (by omega)]) (by simp [wkBs, setBx, nthB, wkBx, wkL, okA, wkP, cloE, sig, wrapN i (by omega)]) (by simp) (by simp), by simp only; omega⟩
  · exact RetQ.c (.inr rfl) rfl (by rw [idxI_none hi (by simpa using hb) hall])
theorem ok_ContainsFuncP (l : List Prim) (g : Nat) (caps : List (List C)) (f : Prim → Bool) (hl : l.length < 9223372036854775807) (hok : ∀ s ∈ l, Ok Tryz.prog g (primA s :: caps.map .pt) (.v (boolA (f s)))) :
    Ok Tryz.prog 29 [primsA l, .c (.fn g caps)] (.v (boolA (l.any f))) := by
  (refine Ok.code hT hM (fn := Tryz.f29) rfl rfl rfl _ _ rfl rfl (Nat.le_of_ble_eq_true rfl) fun E hE hP ht h0 hrd => ?_; refine Go.run hE 9000 ?_; simp only [Tryz.f29, evX, reduceIte, reduceCtorEq, Nat.reduceLT, Nat.reduceAdd, Nat.reduceEqDiff, Nat.reduceBEq, Nat.reduceLeDiff, Nat.reduceMul, ttL, tyL, ht])
  (refine CallG.ok hE 9000 (hP ▸ ok_IndexFuncP l g caps f hl hok) rfl rfl ?_ <;> simp only [evX, reduceIte, reduceCtorEq, Nat.reduceLT, Nat.reduceAdd, Nat.reduceEqDiff, Nat.reduceBEq, Nat.reduceLeDiff, Nat.reduceMul, ttL, tyL, ht])
  exact RetQ.bool (.inr rfl) rfl (idxI_nn f l)
theorem ok_flowMay1 (p : Prim) (bp : primB p) (rp : primR p) : Ok Tryz.prog 30 [primA p] (.v (boolA (!mayP p))) := by
  (refine Ok.code hT hM (fn := Tryz.f30) rfl rfl rfl _ _ rfl rfl (Nat.le_of_ble_eq_true rfl) fun E hE hP ht h0 hrd => ?_; refine Go.run hE 9000 ?_; simp only [Tryz.f30, evX, reduceIte, reduceCtorEq, Nat.reduceLT, Nat.reduceAdd, Nat.reduceEqDiff, Nat.reduceBEq, Nat.reduceLeDiff, Nat.reduceMul, ttL, tyL, ht])
  (refine CallG.ok hE 9000 (hP ▸ ok_primMay p bp rp) rfl rfl ?_ <;> simp only [evX, reduceIte, reduceCtorEq, Nat.reduceLT, Nat.reduceAdd, Nat.reduceEqDiff, Nat.reduceBEq, Nat.reduceLeDiff, Nat.reduceMul, ttL, tyL, ht])
  exact RetQ.bool (.inr rfl) rfl rfl
theorem ok_flowMay (l : List Prim) (hl : l.length < 9223372036854775807) (bl : ∀ p ∈ l, primB p) (rl : ∀ p ∈ l, primR p) : Ok Tryz.prog 15 [primsA l] (.v (boolA (l.all mayP))) := by
  (refine Ok.code hT hM (fn := Tryz.f15) rfl rfl rfl _ _ rfl rfl (Nat.le_of_ble_eq_true rfl) fun E hE hP ht h0 hrd => ?_; refine Go.run hE 9000 ?_; simp only [Tryz.f15, evX, reduceIte, reduceCtorEq, Nat.reduceLT, Nat.reduceAdd, Nat.reduceEqDiff, Nat.reduceBEq, Nat.reduceLeDiff, Nat.reduceMul, ttL, tyL, ht])
  (refine CallG.ok hE 9000 (hP ▸ ok_ContainsFuncP l 30 [] (fun p => !mayP p) hl (fun p hp => ok_flowMay1 p (bl p hp) (rl p hp))) rfl rfl ?_ <;> simp only [evX, reduceIte, reduceCtorEq, Nat.reduceLT, Nat.reduceAdd, Nat.reduceEqDiff, Nat.reduceBEq, Nat.reduceLeDiff, Nat.reduceMul, ttL, tyL, ht])
  exact RetQ.bool (.inr rfl) rfl (by rw [List.all_eq_not_any_not])
theorem ok_ref10May (l : List Prim) (hl : l.length < 9223372036854775807) (bl : ∀ p ∈ l, primB p) (rl : ∀ p ∈ l, primR p) : Ok Tryz.prog 14 [primsA l] (.v (boolA (l.all mayP))) := by
  (refine Ok.code hT hM (fn := Tryz.f14) rfl rfl rfl _ _ rfl rfl (Nat.le_of_ble_eq_true rfl) fun E hE hP ht h0 hrd => ?_; refine Go.run hE 9000 ?_; simp only [Tryz.f14, evX, reduceIte, reduceCtorEq, Nat.reduceLT, Nat.reduceAdd, Nat.reduceEqDiff, Nat.reduceBEq, Nat.reduceLeDiff, Nat.reduceMul, ttL, tyL, ht])
  refine Loop.by hE (ι := {i : Nat // i ≤ l.length ∧ (l.take i).all mayP = true}) (fun i => ⟨18, [(0, primsA l), (3, intA i.1)], [], [], []⟩) (fun i => l.length - i.1) ⟨0, by simp⟩ 9000 ⟨[], Wk.of rfl (by simp) (by rw [h0]; simp [fixB]) (by simp [wkT, okA, wkP, cloE, Vam.look, sig, ]) (by simp [wkBs, setBx, nthB, wkBx, wkL, okA, wkP, cloE, sig, ]) (by simp) (by simp)⟩ (by simp [h0]) ?_
  rintro ⟨i, hi, hall⟩
  simp only [evX, reduceIte, reduceCtorEq, Nat.reduceLT, Nat.reduceAdd, Nat.reduceEqDiff, Nat.reduceBEq, Nat.reduceLeDiff, Nat.reduceMul, ttL, tyL, ht]
  ((first | refine SelF.byN (fun hb => ?_) (fun hb => ?_) | refine SelF.by (fun hb => ?_) (fun hb => ?_)) <;> simp only [hb, evX, reduceIte, reduceCtorEq, Nat.reduceLT, Nat.reduceAdd, Nat.reduceEqDiff, Nat.reduceBEq, Nat.reduceLeDiff, Nat.reduceMul, ttL, tyL, ht])
  · simp only [decide_eq_true_eq] at hb
    have hlt : i < l.length := by omega
    refine IdxR.nat hE 9000 hlt rfl ?_
    simp only [evX, reduceIte, reduceCtorEq, Nat.reduceLT, Nat.reduceAdd, Nat.reduceEqDiff, Nat.reduceBEq, Nat.reduceLeDiff, Nat.reduceMul, ttL, tyL, ht]
    have hm := List.getElem_mem hlt
    (refine CallG.ok hE 9000 (hP ▸ ok_rMay l[i] (bl _ hm) (rl _ hm)) rfl rfl ?_ <;> simp only [evX, reduceIte, reduceCtorEq, Nat.reduceLT, Nat.reduceAdd, Nat.reduceEqDiff, Nat.reduceBEq, Nat.reduceLeDiff, Nat.reduceMul, ttL, tyL, ht])
    ((first | refine SelF.byN (fun hb => ?_) (fun hb => ?_) | refine SelF.by (fun hb => ?_) (fun hb => ?_)) <;> simp only [hb, evX, reduceIte, reduceCtorEq, Nat.reduceLT, Nat.reduceAdd, Nat.reduceEqDiff, Nat.reduceBEq, Nat.reduceLeDiff, Nat.reduceMul, ttL, tyL, ht])
    · exact RetQ.bool (.inr rfl) rfl (all_at hlt (by simpa using hb)).symm
    · refine ⟨⟨i + 1, by omega, by rw [all_take hlt, hall]; simpa using hb⟩, [], Wk.of rfl (by simp) (by rw [h0]; simp [fixB]) (by simp [wkT, okA, wkP, cloE, Vam.look, sig, wrapN i (by omega)]) (by simp [wkBs, setBx, nthB, wkBx, wkL, okA, wkP, cloE, sig, wrapN i (by omega)]) (by simp) (by simp), by simp only; omega⟩
  · exact RetQ.bool (.inr rfl) rfl (all_full hi (by simpa using hb) hall).symm
end Go.Proofs.YtfjlopdofjbfgaaGreat
