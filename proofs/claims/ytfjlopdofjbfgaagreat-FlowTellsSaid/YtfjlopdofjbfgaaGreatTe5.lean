/- A tree that changes change, the document's way. -/
import Derived.Test.YtfjlopdofjbfgaaGreatTc3
import Derived.Test.YtfjlopdofjbfgaaGreatTe1
namespace Go.Proofs.YtfjlopdofjbfgaaGreat
open Go.Vam Go.Qm
set_option linter.unusedVariables false
set_option linter.unusedSimpArgs false
set_option maxRecDepth 8000
set_option maxHeartbeats 2000000

theorem ok_ref10Apply (t : List File) (l : List Prim) {a b : Nat} (nt : treeN a b t) (hl : l.length < 9223372036854775807) (bl : ∀ p ∈ l, primB p) (rl : ∀ p ∈ l, primR p) (ha : (a + l.length) * 40 ≤ Big) (hb' : (b + 200 * l.length) * 16 ≤ Big) : Ok Tryz.prog 9 [treeA t, primsA l] (.v (.tup [treeA (runL t l).1, intA (runL t l).2])) := by
  have hB := runL_B nt rl ha hb'
  (refine Ok.code hT hM (fn := Tryz.f9) rfl rfl rfl _ _ rfl rfl (Nat.le_of_ble_eq_true rfl) fun E hE hP ht h0 hrd => ?_; refine Go.run hE 9000 ?_; simp only [Tryz.f9, evX, reduceIte, reduceCtorEq, Nat.reduceLT, Nat.reduceAdd, Nat.reduceEqDiff, Nat.reduceBEq, Nat.reduceLeDiff, Nat.reduceMul, ttL, tyL, ht])
  refine Loop.by hE (ι := {i : Nat // i ≤ l.length ∧ (runL t (l.take i)).2 = 0}) (fun i => ⟨29, [(0, treeA (runL t (l.take i.1)).1), (1, primsA l), (6, intA i.1)], [], [], []⟩) (fun i => l.length - i.1) ⟨0, by simp [runL]⟩ 9000 ⟨[], Wk.of rfl (by simp) (by rw [h0]; simp [fixB]) (by simp [wkT, okA, wkP, cloE, Vam.look, sig, runL]) (by simp [wkBs, setBx, nthB, wkBx, wkL, okA, wkP, cloE, sig, runL]) (by simp) (by simp)⟩ (by simp [h0]) ?_
  rintro ⟨i, hi, hall⟩
  simp only [evX, reduceIte, reduceCtorEq, Nat.reduceLT, Nat.reduceAdd, Nat.reduceEqDiff, Nat.reduceBEq, Nat.reduceLeDiff, Nat.reduceMul, ttL, tyL, ht]
  ((first | refine SelF.byN (fun hb => ?_) (fun hb => ?_) | refine SelF.by (fun hb => ?_) (fun hb => ?_)) <;> simp only [hb, evX, reduceIte, reduceCtorEq, Nat.reduceLT, Nat.reduceAdd, Nat.reduceEqDiff, Nat.reduceBEq, Nat.reduceLeDiff, Nat.reduceMul, ttL, tyL, ht])
  · simp only [decide_eq_true_eq] at hb
    have hlt : i < l.length := by omega
    refine IdxR.nat hE 9000 hlt rfl ?_
    simp only [evX, reduceIte, reduceCtorEq, Nat.reduceLT, Nat.reduceAdd, Nat.reduceEqDiff, Nat.reduceBEq, Nat.reduceLeDiff, Nat.reduceMul, ttL, tyL, ht]
    have hm := List.getElem_mem hlt
    have hr := runL_take hlt hall
    (refine CallG.ok hE 9000 (hP ▸ ok_rApply (runL t (l.take i)).1 l[i] (hB i) (bl _ hm) (rl _ hm)) rfl rfl ?_ <;> simp only [evX, reduceIte, reduceCtorEq, Nat.reduceLT, Nat.reduceAdd, Nat.reduceEqDiff, Nat.reduceBEq, Nat.reduceLeDiff, Nat.reduceMul, ttL, tyL, ht])
    rw [← hr]
    ((first | refine SelF.byN (fun hb => ?_) (fun hb => ?_) | refine SelF.by (fun hb => ?_) (fun hb => ?_)) <;> simp only [hb, evX, reduceIte, reduceCtorEq, Nat.reduceLT, Nat.reduceAdd, Nat.reduceEqDiff, Nat.reduceBEq, Nat.reduceLeDiff, Nat.reduceMul, ttL, tyL, ht])
    · have h1 : (runL t (l.take (i + 1))).2 ≠ 0 := by simpa using hb
      exact RetQ.two (.inr rfl) rfl rfl rfl (by rw [runL_stop h1]; rfl)
    · have h1 : (runL t (l.take (i + 1))).2 = 0 := by simpa using hb
      refine ⟨⟨i + 1, by omega, h1⟩, [], Wk.of rfl (by simp) (by rw [h0]; simp [fixB]) (by simp [wkT, okA, wkP, cloE, Vam.look, sig, wrapN i (by omega)]) (by simp [wkBs, setBx, nthB, wkBx, wkL, okA, wkP, cloE, sig, wrapN i (by omega)]) (by simp) (by simp), by simp only; omega⟩
  · have : i = l.length := by simp at hb; omega
    subst this
    rw [List.take_length] at hall
    exact RetQ.two (.inr rfl) rfl rfl rfl (by rw [List.take_length, hall]; rfl)
end Go.Proofs.YtfjlopdofjbfgaaGreat
