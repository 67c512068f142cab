/- Lines, names and hunks: what the document's functions upon them tell; which hunks may be. -/
import Derived.Test.YtfjlopdofjbfgaaTb1
import Derived.Test.YtfjlopdofjbfgaaG10
namespace Go.Proofs.Ytfjlopdofjbfgaa
open Go.Vam Go.Qm
set_option linter.unusedVariables false
set_option linter.unusedSimpArgs false
set_option maxRecDepth 8000

theorem ok_hunkMay (h : Hunk) : Ok Try.prog 66 [hunkA h] (.v (boolA (hunkOk h))) := by
  (refine Ok.code hT hM (fn := Try.f66) rfl rfl rfl _ _ rfl rfl (Nat.le_of_ble_eq_true rfl) fun E hE hP ht h0 hrd => ?_; refine Go.run hE 9000 ?_; simp only [Try.f66, evX, reduceIte, reduceCtorEq, Nat.reduceLT, Nat.reduceAdd, Nat.reduceEqDiff, Nat.reduceBEq, Nat.reduceLeDiff, Nat.reduceMul, ttL, tyL, ht])
  repeat' (first | (refine CallG.ok hE 9000 (hP ▸ ok_textAll h.old) rfl rfl ?_ <;> simp only [evX, reduceIte, reduceCtorEq, Nat.reduceLT, Nat.reduceAdd, Nat.reduceEqDiff, Nat.reduceBEq, Nat.reduceLeDiff, Nat.reduceMul, ttL, tyL, ht]) | (refine CallG.ok hE 9000 (hP ▸ ok_textAll h.new) rfl rfl ?_ <;> simp only [evX, reduceIte, reduceCtorEq, Nat.reduceLT, Nat.reduceAdd, Nat.reduceEqDiff, Nat.reduceBEq, Nat.reduceLeDiff, Nat.reduceMul, ttL, tyL, ht]) | ((first | refine SelF.byN (fun hb => ?_) (fun hb => ?_) | refine SelF.by (fun hb => ?_) (fun hb => ?_)) <;> simp only [hb, evX, reduceIte, reduceCtorEq, Nat.reduceLT, Nat.reduceAdd, Nat.reduceEqDiff, Nat.reduceBEq, Nat.reduceLeDiff, Nat.reduceMul, ttL, tyL, ht]))
  all_goals exact RetQ.bool (.inr rfl) rfl (by simp_all [hunkOk] <;> (intros; omega))
end Go.Proofs.Ytfjlopdofjbfgaa
