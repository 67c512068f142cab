/- The laws of changes that pass one another. -/
import Derived.Test.YtjlbliljpffmjaaTd5
namespace Go.Proofs.Ytjlbliljpffmjaa
open Go.Vam Go.Qm
set_option linter.unusedVariables false
set_option linter.unusedSimpArgs false
set_option maxRecDepth 8000
set_option maxHeartbeats 2000000

theorem nn {b : Bool} (h : (!b) = false) : b = true := by simpa using h
theorem law_PassThree (p : Prim) (bp : primB p) (rp : primR p) (q : Prim) (bq : primB q) (rq : primR q) (r : Prim) (br : primB r) (rr : primR r) : Ok Try.prog 7 [primA p, primA q, primA r] (.v (boolA true)) := by
  (refine Ok.code hT hM (fn := Try.f7) rfl rfl rfl _ _ rfl rfl (Nat.le_of_ble_eq_true rfl) fun E hE hP ht h0 hrd => ?_; refine Go.run hE 9000 ?_; simp only [Try.f7, evX, reduceIte, reduceCtorEq, Nat.reduceLT, Nat.reduceAdd, Nat.reduceEqDiff, Nat.reduceBEq, Nat.reduceLeDiff, Nat.reduceMul, ttL, tyL, ht])
  (refine CallG.ok hE 9000 (hP ▸ ok_awake09) rfl rfl ?_ <;> simp only [evX, reduceIte, reduceCtorEq, Nat.reduceLT, Nat.reduceAdd, Nat.reduceEqDiff, Nat.reduceBEq, Nat.reduceLeDiff, Nat.reduceMul, ttL, tyL, ht])
  (refine CallG.ok hE 9000 (hP ▸ ok_lightP p bp) rfl rfl ?_ <;> simp only [evX, reduceIte, reduceCtorEq, Nat.reduceLT, Nat.reduceAdd, Nat.reduceEqDiff, Nat.reduceBEq, Nat.reduceLeDiff, Nat.reduceMul, ttL, tyL, ht])
  (refine CallG.ok hE 9000 (hP ▸ ok_lightP q bq) rfl rfl ?_ <;> simp only [evX, reduceIte, reduceCtorEq, Nat.reduceLT, Nat.reduceAdd, Nat.reduceEqDiff, Nat.reduceBEq, Nat.reduceLeDiff, Nat.reduceMul, ttL, tyL, ht])
  (refine CallG.ok hE 9000 (hP ▸ ok_lightP r br) rfl rfl ?_ <;> simp only [evX, reduceIte, reduceCtorEq, Nat.reduceLT, Nat.reduceAdd, Nat.reduceEqDiff, Nat.reduceBEq, Nat.reduceLeDiff, Nat.reduceMul, ttL, tyL, ht])
  repeat' ((first | refine SelF.byN (fun hb => ?_) (fun hb => ?_) | refine SelF.by (fun hb => ?_) (fun hb => ?_)) <;> simp only [hb, evX, reduceIte, reduceCtorEq, Nat.reduceLT, Nat.reduceAdd, Nat.reduceEqDiff, Nat.reduceBEq, Nat.reduceLeDiff, Nat.reduceMul, ttL, tyL, ht])
  all_goals try exact RetQ.bool (.inr rfl) rfl rfl
  have b1 := passPT_B bp bq
  have r1 := passPT_R rp rq
  (refine CallG.ok hE 9000 (hP ▸ ok_passPass p q bp bq rp rq) rfl rfl ?_ <;> simp only [evX, reduceIte, reduceCtorEq, Nat.reduceLT, Nat.reduceAdd, Nat.reduceEqDiff, Nat.reduceBEq, Nat.reduceLeDiff, Nat.reduceMul, ttL, tyL, ht])
  (refine StG.by hE ht 9000 rfl ?_ <;> simp only [evX, reduceIte, reduceCtorEq, Nat.reduceLT, Nat.reduceAdd, Nat.reduceEqDiff, Nat.reduceBEq, Nat.reduceLeDiff, Nat.reduceMul, ttL, tyL, ht])
  (refine StG.by hE ht 9000 rfl ?_ <;> simp only [evX, reduceIte, reduceCtorEq, Nat.reduceLT, Nat.reduceAdd, Nat.reduceEqDiff, Nat.reduceBEq, Nat.reduceLeDiff, Nat.reduceMul, ttL, tyL, ht])
  have b2 := passPT_B b1.2 br
  have r2 := passPT_R r1.2 rr
  (refine CallG.ok hE 9000 (hP ▸ ok_passPass (passPT p q).2.1 r b1.2 br r1.2 rr) rfl rfl ?_ <;> simp only [evX, reduceIte, reduceCtorEq, Nat.reduceLT, Nat.reduceAdd, Nat.reduceEqDiff, Nat.reduceBEq, Nat.reduceLeDiff, Nat.reduceMul, ttL, tyL, ht])
  (refine StG.by hE ht 9000 rfl ?_ <;> simp only [evX, reduceIte, reduceCtorEq, Nat.reduceLT, Nat.reduceAdd, Nat.reduceEqDiff, Nat.reduceBEq, Nat.reduceLeDiff, Nat.reduceMul, ttL, tyL, ht])
  (refine StG.by hE ht 9000 rfl ?_ <;> simp only [evX, reduceIte, reduceCtorEq, Nat.reduceLT, Nat.reduceAdd, Nat.reduceEqDiff, Nat.reduceBEq, Nat.reduceLeDiff, Nat.reduceMul, ttL, tyL, ht])
  have b3 := passPT_B b1.1 b2.1
  have r3 := passPT_R r1.1 r2.1
  (refine CallG.ok hE 9000 (hP ▸ ok_passPass (passPT p q).1 (passPT (passPT p q).2.1 r).1 b1.1 b2.1 r1.1 r2.1) rfl rfl ?_ <;> simp only [evX, reduceIte, reduceCtorEq, Nat.reduceLT, Nat.reduceAdd, Nat.reduceEqDiff, Nat.reduceBEq, Nat.reduceLeDiff, Nat.reduceMul, ttL, tyL, ht])
  (refine StG.by hE ht 9000 rfl ?_ <;> simp only [evX, reduceIte, reduceCtorEq, Nat.reduceLT, Nat.reduceAdd, Nat.reduceEqDiff, Nat.reduceBEq, Nat.reduceLeDiff, Nat.reduceMul, ttL, tyL, ht])
  (refine StG.by hE ht 9000 rfl ?_ <;> simp only [evX, reduceIte, reduceCtorEq, Nat.reduceLT, Nat.reduceAdd, Nat.reduceEqDiff, Nat.reduceBEq, Nat.reduceLeDiff, Nat.reduceMul, ttL, tyL, ht])
  have b4 := passPT_B bq br
  have r4 := passPT_R rq rr
  (refine CallG.ok hE 9000 (hP ▸ ok_passPass q r bq br rq rr) rfl rfl ?_ <;> simp only [evX, reduceIte, reduceCtorEq, Nat.reduceLT, Nat.reduceAdd, Nat.reduceEqDiff, Nat.reduceBEq, Nat.reduceLeDiff, Nat.reduceMul, ttL, tyL, ht])
  (refine StG.by hE ht 9000 rfl ?_ <;> simp only [evX, reduceIte, reduceCtorEq, Nat.reduceLT, Nat.reduceAdd, Nat.reduceEqDiff, Nat.reduceBEq, Nat.reduceLeDiff, Nat.reduceMul, ttL, tyL, ht])
  (refine StG.by hE ht 9000 rfl ?_ <;> simp only [evX, reduceIte, reduceCtorEq, Nat.reduceLT, Nat.reduceAdd, Nat.reduceEqDiff, Nat.reduceBEq, Nat.reduceLeDiff, Nat.reduceMul, ttL, tyL, ht])
  have b5 := passPT_B bp b4.1
  have r5 := passPT_R rp r4.1
  (refine CallG.ok hE 9000 (hP ▸ ok_passPass p (passPT q r).1 bp b4.1 rp r4.1) rfl rfl ?_ <;> simp only [evX, reduceIte, reduceCtorEq, Nat.reduceLT, Nat.reduceAdd, Nat.reduceEqDiff, Nat.reduceBEq, Nat.reduceLeDiff, Nat.reduceMul, ttL, tyL, ht])
  (refine StG.by hE ht 9000 rfl ?_ <;> simp only [evX, reduceIte, reduceCtorEq, Nat.reduceLT, Nat.reduceAdd, Nat.reduceEqDiff, Nat.reduceBEq, Nat.reduceLeDiff, Nat.reduceMul, ttL, tyL, ht])
  (refine StG.by hE ht 9000 rfl ?_ <;> simp only [evX, reduceIte, reduceCtorEq, Nat.reduceLT, Nat.reduceAdd, Nat.reduceEqDiff, Nat.reduceBEq, Nat.reduceLeDiff, Nat.reduceMul, ttL, tyL, ht])
  (refine CallG.ok hE 9000 (hP ▸ ok_passPass (passPT p (passPT q r).1).2.1 (passPT q r).2.1 b5.2 b4.2 r5.2 r4.2) rfl rfl ?_ <;> simp only [evX, reduceIte, reduceCtorEq, Nat.reduceLT, Nat.reduceAdd, Nat.reduceEqDiff, Nat.reduceBEq, Nat.reduceLeDiff, Nat.reduceMul, ttL, tyL, ht])
  (refine StG.by hE ht 9000 rfl ?_ <;> simp only [evX, reduceIte, reduceCtorEq, Nat.reduceLT, Nat.reduceAdd, Nat.reduceEqDiff, Nat.reduceBEq, Nat.reduceLeDiff, Nat.reduceMul, ttL, tyL, ht])
  (refine StG.by hE ht 9000 rfl ?_ <;> simp only [evX, reduceIte, reduceCtorEq, Nat.reduceLT, Nat.reduceAdd, Nat.reduceEqDiff, Nat.reduceBEq, Nat.reduceLeDiff, Nat.reduceMul, ttL, tyL, ht])
  repeat' ((first | refine SelF.byN (fun hb => ?_) (fun hb => ?_) | refine SelF.by (fun hb => ?_) (fun hb => ?_)) <;> simp only [hb, evX, reduceIte, reduceCtorEq, Nat.reduceLT, Nat.reduceAdd, Nat.reduceEqDiff, Nat.reduceBEq, Nat.reduceLeDiff, Nat.reduceMul, ttL, tyL, ht])
  all_goals try exact RetQ.bool (.inr rfl) rfl rfl
  have i1 : (passPT p q).2.2 = true := by first | assumption | exact nn (by assumption)
  have i2 : (passPT (passPT p q).2.1 r).2.2 = true := by first | assumption | exact nn (by assumption)
  have i3 : (passPT (passPT p q).1 (passPT (passPT p q).2.1 r).1).2.2 = true := by first | assumption | exact nn (by assumption)
  have i4 : (passPT q r).2.2 = true := by first | assumption | exact nn (by assumption)
  have i5 : (passPT p (passPT q r).1).2.2 = true := by first | assumption | exact nn (by assumption)
  have i6 : (passPT (passPT p (passPT q r).1).2.1 (passPT q r).2.1).2.2 = true := by first | assumption | exact nn (by assumption)
  obtain ⟨e1, e2, e3⟩ := pass_three (passPT_some i1) (passPT_some i2) (passPT_some i3) (passPT_some i4) (passPT_some i5) (passPT_some i6)
  (refine CallG.ok hE 9000 (hP ▸ ok_sameP (passPT (passPT p q).1 (passPT (passPT p q).2.1 r).1).1 (passPT p (passPT q r).1).1 b3.1) rfl rfl ?_ <;> simp only [evX, reduceIte, reduceCtorEq, Nat.reduceLT, Nat.reduceAdd, Nat.reduceEqDiff, Nat.reduceBEq, Nat.reduceLeDiff, Nat.reduceMul, ttL, tyL, ht])
  simp only [e1, primEq_refl, evX, reduceIte, reduceCtorEq, Nat.reduceLT, Nat.reduceAdd, Nat.reduceEqDiff, Nat.reduceBEq, Nat.reduceLeDiff, Nat.reduceMul, ttL, tyL, ht]
  (refine CallG.ok hE 9000 (hP ▸ ok_sameP (passPT (passPT p q).1 (passPT (passPT p q).2.1 r).1).2.1 (passPT (passPT p (passPT q r).1).2.1 (passPT q r).2.1).1 b3.2) rfl rfl ?_ <;> simp only [evX, reduceIte, reduceCtorEq, Nat.reduceLT, Nat.reduceAdd, Nat.reduceEqDiff, Nat.reduceBEq, Nat.reduceLeDiff, Nat.reduceMul, ttL, tyL, ht])
  simp only [e2, primEq_refl, evX, reduceIte, reduceCtorEq, Nat.reduceLT, Nat.reduceAdd, Nat.reduceEqDiff, Nat.reduceBEq, Nat.reduceLeDiff, Nat.reduceMul, ttL, tyL, ht]
  (refine CallG.ok hE 9000 (hP ▸ ok_sameP (passPT (passPT p q).2.1 r).2.1 (passPT (passPT p (passPT q r).1).2.1 (passPT q r).2.1).2.1 b2.2) rfl rfl ?_ <;> simp only [evX, reduceIte, reduceCtorEq, Nat.reduceLT, Nat.reduceAdd, Nat.reduceEqDiff, Nat.reduceBEq, Nat.reduceLeDiff, Nat.reduceMul, ttL, tyL, ht])
  simp only [e3, primEq_refl, evX, reduceIte, reduceCtorEq, Nat.reduceLT, Nat.reduceAdd, Nat.reduceEqDiff, Nat.reduceBEq, Nat.reduceLeDiff, Nat.reduceMul, ttL, tyL, ht]
  exact RetQ.bool (.inr rfl) rfl rfl
theorem law_PassSame (t : List File) (bt : treeB t) (p : Prim) (bp : primB p) (rp : primR p) (q : Prim) (bq : primB q) (rq : primR q) : Ok Try.prog 11 [treeA t, primA p, primA q] (.v (boolA true)) := by
  (refine Ok.code hT hM (fn := Try.f11) rfl rfl rfl _ _ rfl rfl (Nat.le_of_ble_eq_true rfl) fun E hE hP ht h0 hrd => ?_; refine Go.run hE 9000 ?_; simp only [Try.f11, evX, reduceIte, reduceCtorEq, Nat.reduceLT, Nat.reduceAdd, Nat.reduceEqDiff, Nat.reduceBEq, Nat.reduceLeDiff, Nat.reduceMul, ttL, tyL, ht])
  (refine CallG.ok hE 9000 (hP ▸ ok_awake09) rfl rfl ?_ <;> simp only [evX, reduceIte, reduceCtorEq, Nat.reduceLT, Nat.reduceAdd, Nat.reduceEqDiff, Nat.reduceBEq, Nat.reduceLeDiff, Nat.reduceMul, ttL, tyL, ht])
  (refine CallG.ok hE 9000 (hP ▸ ok_lightT t bt) rfl rfl ?_ <;> simp only [evX, reduceIte, reduceCtorEq, Nat.reduceLT, Nat.reduceAdd, Nat.reduceEqDiff, Nat.reduceBEq, Nat.reduceLeDiff, Nat.reduceMul, ttL, tyL, ht])
  (refine CallG.ok hE 9000 (hP ▸ ok_lightP p bp) rfl rfl ?_ <;> simp only [evX, reduceIte, reduceCtorEq, Nat.reduceLT, Nat.reduceAdd, Nat.reduceEqDiff, Nat.reduceBEq, Nat.reduceLeDiff, Nat.reduceMul, ttL, tyL, ht])
  (refine CallG.ok hE 9000 (hP ▸ ok_lightP q bq) rfl rfl ?_ <;> simp only [evX, reduceIte, reduceCtorEq, Nat.reduceLT, Nat.reduceAdd, Nat.reduceEqDiff, Nat.reduceBEq, Nat.reduceLeDiff, Nat.reduceMul, ttL, tyL, ht])
  repeat' (first | (refine CallG.ok hE 9000 (hP ▸ ok_treeMay t bt) rfl rfl ?_ <;> simp only [evX, reduceIte, reduceCtorEq, Nat.reduceLT, Nat.reduceAdd, Nat.reduceEqDiff, Nat.reduceBEq, Nat.reduceLeDiff, Nat.reduceMul, ttL, tyL, ht]) | ((first | refine SelF.byN (fun hb => ?_) (fun hb => ?_) | refine SelF.by (fun hb => ?_) (fun hb => ?_)) <;> simp only [hb, evX, reduceIte, reduceCtorEq, Nat.reduceLT, Nat.reduceAdd, Nat.reduceEqDiff, Nat.reduceBEq, Nat.reduceLeDiff, Nat.reduceMul, ttL, tyL, ht]))
  all_goals try exact RetQ.bool (.inr rfl) rfl rfl
  have hm : treeMay t = true := by simp_all
  have hl : treeLight t = true := by simp_all
  have b1 := passPT_B bp bq
  have r1 := passPT_R rp rq
  have nt := light_N bt hl
  have n1 := apply_N nt rp
  have n3 := apply_N nt r1.1
  (refine CallG.ok hE 9000 (hP ▸ ok_passPass p q bp bq rp rq) rfl rfl ?_ <;> simp only [evX, reduceIte, reduceCtorEq, Nat.reduceLT, Nat.reduceAdd, Nat.reduceEqDiff, Nat.reduceBEq, Nat.reduceLeDiff, Nat.reduceMul, ttL, tyL, ht])
  (refine StG.by hE ht 9000 rfl ?_ <;> simp only [evX, reduceIte, reduceCtorEq, Nat.reduceLT, Nat.reduceAdd, Nat.reduceEqDiff, Nat.reduceBEq, Nat.reduceLeDiff, Nat.reduceMul, ttL, tyL, ht])
  (refine StG.by hE ht 9000 rfl ?_ <;> simp only [evX, reduceIte, reduceCtorEq, Nat.reduceLT, Nat.reduceAdd, Nat.reduceEqDiff, Nat.reduceBEq, Nat.reduceLeDiff, Nat.reduceMul, ttL, tyL, ht])
  (refine CallG.ok hE 9000 (hP ▸ ok_apply t p bt bp rp) rfl rfl ?_ <;> simp only [evX, reduceIte, reduceCtorEq, Nat.reduceLT, Nat.reduceAdd, Nat.reduceEqDiff, Nat.reduceBEq, Nat.reduceLeDiff, Nat.reduceMul, ttL, tyL, ht])
  (refine CallG.ok hE 9000 (hP ▸ ok_apply (applyP t p).1 q (n1.B (by decide) (by decide)) bq rq) rfl rfl ?_ <;> simp only [evX, reduceIte, reduceCtorEq, Nat.reduceLT, Nat.reduceAdd, Nat.reduceEqDiff, Nat.reduceBEq, Nat.reduceLeDiff, Nat.reduceMul, ttL, tyL, ht])
  repeat' ((first | refine SelF.byN (fun hb => ?_) (fun hb => ?_) | refine SelF.by (fun hb => ?_) (fun hb => ?_)) <;> simp only [hb, evX, reduceIte, reduceCtorEq, Nat.reduceLT, Nat.reduceAdd, Nat.reduceEqDiff, Nat.reduceBEq, Nat.reduceLeDiff, Nat.reduceMul, ttL, tyL, ht])
  all_goals try exact RetQ.bool (.inr rfl) rfl rfl
  have i1 : (passPT p q).2.2 = true := by first | assumption | exact nn (by assumption)
  have e1 : (applyP t p).2 = 0 := by simp_all
  have e2 : (applyP (applyP t p).1 q).2 = 0 := by simp_all
  obtain ⟨k1, k2⟩ := pass_same (treeMay_srt hm) e1 e2 (passPT_some i1)
  (refine CallG.ok hE 9000 (hP ▸ ok_apply t (passPT p q).1 bt b1.1 r1.1) rfl rfl ?_ <;> simp only [evX, reduceIte, reduceCtorEq, Nat.reduceLT, Nat.reduceAdd, Nat.reduceEqDiff, Nat.reduceBEq, Nat.reduceLeDiff, Nat.reduceMul, ttL, tyL, ht])
  (refine CallG.ok hE 9000 (hP ▸ ok_apply (applyP t (passPT p q).1).1 (passPT p q).2.1 (n3.B (by decide) (by decide)) b1.2 r1.2) rfl rfl ?_ <;> simp only [evX, reduceIte, reduceCtorEq, Nat.reduceLT, Nat.reduceAdd, Nat.reduceEqDiff, Nat.reduceBEq, Nat.reduceLeDiff, Nat.reduceMul, ttL, tyL, ht])
  simp only [k1, k2, evX, reduceIte, reduceCtorEq, Nat.reduceLT, Nat.reduceAdd, Nat.reduceEqDiff, Nat.reduceBEq, Nat.reduceLeDiff, Nat.reduceMul, ttL, tyL, ht, Int.reduceBEq]
  (refine CallG.ok hE 9000 (hP ▸ ok_treeSame (applyP (applyP t p).1 q).1 (applyP (applyP t p).1 q).1 ((apply_N n1 rq).B (by decide) (by decide))) rfl rfl ?_ <;> simp only [evX, reduceIte, reduceCtorEq, Nat.reduceLT, Nat.reduceAdd, Nat.reduceEqDiff, Nat.reduceBEq, Nat.reduceLeDiff, Nat.reduceMul, ttL, tyL, ht])
  exact RetQ.bool (.inr rfl) rfl (treeEq_refl _)
end Go.Proofs.Ytjlbliljpffmjaa
