/- Tidied, changes do the same. -/
import Derived.Test.YtjlbliljpffmjaaTa7
import Derived.Test.YtjlbliljpffmjaaTe1
import Derived.Test.YtjlbliljpffmjaaTc3
namespace Go.Proofs.Ytjlbliljpffmjaa
open Go.Vam Go.Qm
set_option linter.unusedVariables false
set_option linter.unusedSimpArgs false
set_option maxRecDepth 8000

theorem law_TidySame (t : List File) (bt : treeB t) (l : List Prim) (b : primsB l) (r : ∀ p ∈ l, primR p) : Ok Try.prog 10 [treeA t, primsA l] (.v (boolA true)) := by
  have hl : l.length * 96 ≤ 140737488351232 := b.1
  (refine Ok.code hT hM (fn := Try.f10) rfl rfl rfl _ _ rfl rfl (Nat.le_of_ble_eq_true rfl) fun E hE hP ht h0 hrd => ?_; refine Go.run hE 9000 ?_; simp only [Try.f10, evX, reduceIte, reduceCtorEq, Nat.reduceLT, Nat.reduceAdd, Nat.reduceEqDiff, Nat.reduceBEq, Nat.reduceLeDiff, Nat.reduceMul, ttL, tyL, ht])
  (refine CallG.ok hE 9000 (hP ▸ ok_awake11) rfl rfl ?_ <;> simp only [evX, reduceIte, reduceCtorEq, Nat.reduceLT, Nat.reduceAdd, Nat.reduceEqDiff, Nat.reduceBEq, Nat.reduceLeDiff, Nat.reduceMul, ttL, tyL, ht])
  (refine CallG.ok hE 9000 (hP ▸ ok_lightT t bt) rfl rfl ?_ <;> simp only [evX, reduceIte, reduceCtorEq, Nat.reduceLT, Nat.reduceAdd, Nat.reduceEqDiff, Nat.reduceBEq, Nat.reduceLeDiff, Nat.reduceMul, ttL, tyL, ht])
  (refine CallG.ok hE 9000 (hP ▸ ok_Few l 40 (by omega) b.2) rfl rfl ?_ <;> simp only [evX, reduceIte, reduceCtorEq, Nat.reduceLT, Nat.reduceAdd, Nat.reduceEqDiff, Nat.reduceBEq, Nat.reduceLeDiff, Nat.reduceMul, ttL, tyL, ht])
  repeat' (first | (refine CallG.ok hE 9000 (hP ▸ ok_treeMay t bt) rfl rfl ?_ <;> simp only [evX, reduceIte, reduceCtorEq, Nat.reduceLT, Nat.reduceAdd, Nat.reduceEqDiff, Nat.reduceBEq, Nat.reduceLeDiff, Nat.reduceMul, ttL, tyL, ht]) | ((first | refine SelF.byN (fun hb => ?_) (fun hb => ?_) | refine SelF.by (fun hb => ?_) (fun hb => ?_)) <;> simp only [hb, evX, reduceIte, reduceCtorEq, Nat.reduceLT, Nat.reduceAdd, Nat.reduceEqDiff, Nat.reduceBEq, Nat.reduceLeDiff, Nat.reduceMul, ttL, tyL, ht]))
  all_goals try exact RetQ.bool (.inr rfl) rfl rfl
  have hm : treeMay t = true := by simp_all
  have hlt : treeLight t = true := by simp_all
  have hf : few l 40 = true := by simp_all
  have hlen : l.length ≤ 40 := by have := few_len hf; omega
  have nt := light_N bt hlt
  have tlen := tidyL_len l
  (refine CallG.ok hE 9000 (hP ▸ ok_flowApply t l nt (by omega) b.2 r (Nat.le_trans (m := 80 * 40) (by omega) (by decide)) (Nat.le_trans (m := 8300 * 16) (by omega) (by decide))) rfl rfl ?_ <;> simp only [evX, reduceIte, reduceCtorEq, Nat.reduceLT, Nat.reduceAdd, Nat.reduceEqDiff, Nat.reduceBEq, Nat.reduceLeDiff, Nat.reduceMul, ttL, tyL, ht])
  ((first | refine SelF.byN (fun hb => ?_) (fun hb => ?_) | refine SelF.by (fun hb => ?_) (fun hb => ?_)) <;> simp only [hb, evX, reduceIte, reduceCtorEq, Nat.reduceLT, Nat.reduceAdd, Nat.reduceEqDiff, Nat.reduceBEq, Nat.reduceLeDiff, Nat.reduceMul, ttL, tyL, ht])
  · exact RetQ.bool (.inr rfl) rfl rfl
  · have h1 : (runL t l).2 = 0 := by simpa using hb
    have e := run_tidy (treeMay_srt hm) l.length l rfl h1
    (refine CallG.ok hE 9000 (hP ▸ ok_Tidy l (by omega) b.2) rfl rfl ?_ <;> simp only [evX, reduceIte, reduceCtorEq, Nat.reduceLT, Nat.reduceAdd, Nat.reduceEqDiff, Nat.reduceBEq, Nat.reduceLeDiff, Nat.reduceMul, ttL, tyL, ht])
    (refine CallG.ok hE 9000 (hP ▸ ok_flowApply t (tidyL l) nt (by omega) (fun p hp => b.2 p (tidyL_mem hp)) (fun p hp => r p (tidyL_mem hp)) (Nat.le_trans (m := 80 * 40) (by omega) (by decide)) (Nat.le_trans (m := 8300 * 16) (by omega) (by decide))) rfl rfl ?_ <;> simp only [evX, reduceIte, reduceCtorEq, Nat.reduceLT, Nat.reduceAdd, Nat.reduceEqDiff, Nat.reduceBEq, Nat.reduceLeDiff, Nat.reduceMul, ttL, tyL, ht])
    simp only [e, h1, evX, reduceIte, reduceCtorEq, Nat.reduceLT, Nat.reduceAdd, Nat.reduceEqDiff, Nat.reduceBEq, Nat.reduceLeDiff, Nat.reduceMul, ttL, tyL, ht, Int.reduceBEq]
    have hB : treeB (runL t l).1 := (runL_N nt r).B (Nat.le_trans (m := 80 * 40) (by omega) (by decide)) (Nat.le_trans (m := 8300 * 16) (by omega) (by decide))
    (refine CallG.ok hE 9000 (hP ▸ ok_treeSame (runL t l).1 (runL t l).1 hB) rfl rfl ?_ <;> simp only [evX, reduceIte, reduceCtorEq, Nat.reduceLT, Nat.reduceAdd, Nat.reduceEqDiff, Nat.reduceBEq, Nat.reduceLeDiff, Nat.reduceMul, ttL, tyL, ht])
    exact RetQ.bool (.inr rfl) rfl (treeEq_refl _)
end Go.Proofs.Ytjlbliljpffmjaa
