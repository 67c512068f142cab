/- Changes, one behind the other: a tree that they change. -/
import Derived.Test.YtfjlopdofjbfgaaGreatTc2
import Derived.Test.YtfjlopdofjbfgaaGreatG11
namespace Go.Proofs.YtfjlopdofjbfgaaGreat
open Go.Vam Go.Qm
set_option linter.unusedVariables false
set_option linter.unusedSimpArgs false
set_option maxRecDepth 8000

theorem runL_B {t : List File} {l : List Prim} {a b : Nat} (nt : treeN a b t) (rl : ∀ p ∈ l, primR p) (ha : (a + l.length) * 40 ≤ Big) (hb' : (b + 200 * l.length) * 16 ≤ Big) (i : Nat) : treeB (runL t (l.take i)).1 := by
  refine (runL_N (l := l.take i) nt fun p hp => rl p (List.mem_of_mem_take hp)).B ?_ ?_
  · refine Nat.le_trans ?_ ha; have : (l.take i).length ≤ l.length := by simp; omega
    omega
  · refine Nat.le_trans ?_ hb'; have : (l.take i).length ≤ l.length := by simp; omega
    omega
theorem ok_flowApply (t : List File) (l : List Prim) {a b : Nat} (nt : treeN a b t) (hl : l.length < 9223372036854775807) (bl : ∀ p ∈ l, primB p) (rl : ∀ p ∈ l, primR p) (ha : (a + l.length) * 40 ≤ Big) (hb' : (b + 200 * l.length) * 16 ≤ Big) : Ok Tryz.prog 8 [treeA t, primsA l] (.v (.tup [treeA (runL t l).1, intA (runL t l).2])) := by
  have hB := runL_B nt rl ha hb'
  (refine Ok.code hT hM (fn := Tryz.f8) rfl rfl rfl _ _ rfl rfl (Nat.le_of_ble_eq_true rfl) fun E hE hP ht h0 hrd => ?_; refine Go.run hE 9000 ?_; simp only [Tryz.f8, evX, reduceIte, reduceCtorEq, Nat.reduceLT, Nat.reduceAdd, Nat.reduceEqDiff, Nat.reduceBEq, Nat.reduceLeDiff, Nat.reduceMul, ttL, tyL, ht])
  refine Loop.by hE (ι := {i : Nat // i ≤ l.length ∧ (runL t (l.take i)).2 = 0}) (fun i => ⟨28, [(0, treeA (runL t (l.take i.1)).1), (10, primsA l), (11, intA l.length), (12, intA i.1)], [], [], []⟩) (fun i => l.length - i.1) ⟨0, by simp [runL]⟩ 9000 ⟨[], Wk.of rfl (by simp) (by rw [h0]; simp [fixB]) (by simp [wkT, okA, wkP, cloE, Vam.look, sig, runL]) (by simp [wkBs, setBx, nthB, wkBx, wkL, okA, wkP, cloE, sig, runL]) (by simp) (by simp)⟩ (by simp [h0]) ?_
  rintro ⟨i, hi, hall⟩
  simp only [evX, reduceIte, reduceCtorEq, Nat.reduceLT, Nat.reduceAdd, Nat.reduceEqDiff, Nat.reduceBEq, Nat.reduceLeDiff, Nat.reduceMul, ttL, tyL, ht]
  ((first | refine SelF.byN (fun hb => ?_) (fun hb => ?_) | refine SelF.by (fun hb => ?_) (fun hb => ?_)) <;> simp only [hb, evX, reduceIte, reduceCtorEq, Nat.reduceLT, Nat.reduceAdd, Nat.reduceEqDiff, Nat.reduceBEq, Nat.reduceLeDiff, Nat.reduceMul, ttL, tyL, ht])
  · simp only [decide_eq_true_eq] at hb
    have hlt : i < l.length := by omega
    refine IdxR.nat hE 9000 hlt rfl ?_
    simp only [evX, reduceIte, reduceCtorEq, Nat.reduceLT, Nat.reduceAdd, Nat.reduceEqDiff, Nat.reduceBEq, Nat.reduceLeDiff, Nat.reduceMul, ttL, tyL, ht]
    (refine StG.by hE ht 9000 rfl ?_ <;> simp only [evX, reduceIte, reduceCtorEq, Nat.reduceLT, Nat.reduceAdd, Nat.reduceEqDiff, Nat.reduceBEq, Nat.reduceLeDiff, Nat.reduceMul, ttL, tyL, ht])
    have hm := List.getElem_mem hlt
    have hr := runL_take hlt hall
    (refine CallG.ok hE 9000 (hP ▸ ok_apply (runL t (l.take i)).1 l[i] (hB i) (bl _ hm) (rl _ hm)) rfl rfl ?_ <;> simp only [evX, reduceIte, reduceCtorEq, Nat.reduceLT, Nat.reduceAdd, Nat.reduceEqDiff, Nat.reduceBEq, Nat.reduceLeDiff, Nat.reduceMul, ttL, tyL, ht])
    rw [← hr]
    ((first | refine SelF.byN (fun hb => ?_) (fun hb => ?_) | refine SelF.by (fun hb => ?_) (fun hb => ?_)) <;> simp only [hb, evX, reduceIte, reduceCtorEq, Nat.reduceLT, Nat.reduceAdd, Nat.reduceEqDiff, Nat.reduceBEq, Nat.reduceLeDiff, Nat.reduceMul, ttL, tyL, ht])
    · have h1 : (runL t (l.take (i + 1))).2 ≠ 0 := by simpa using hb
      exact RetQ.two (.inr rfl) rfl rfl rfl (by rw [runL_stop h1]; rfl)
    · have h1 : (runL t (l.take (i + 1))).2 = 0 := by simpa using hb
      refine ⟨⟨i + 1, by omega, h1⟩, [], Wk.of rfl (by simp) (by rw [h0]; simp [fixB]) (by simp [wkT, okA, wkP, cloE, Vam.look, sig, wrapN i (by omega)]) (by simp [wkBs, setBx, nthB, wkBx, wkL, okA, wkP, cloE, sig, wrapN i (by omega)]) (by simp) (by simp), by simp only; omega⟩
  · have : i = l.length := by simp at hb; omega
    subst this
    rw [List.take_length] at hall
    exact RetQ.two (.inr rfl) rfl rfl rfl (by rw [List.take_length, hall]; rfl)
end Go.Proofs.YtfjlopdofjbfgaaGreat
