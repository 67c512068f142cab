/- The laws of named patches, the last. -/
import Derived.Test.YtmijejoddoolpaaTf3
namespace Go.Proofs.Ytmijejoddoolpaa
open Go.Vam Go.Qm
set_option linter.unusedVariables false
set_option linter.unusedSimpArgs false
set_option maxRecDepth 8000
set_option maxHeartbeats 2000000

theorem law_PatchDeps (p : Named) (bp : namedB p) (rp : namedR p) (n : Int) (rn : i64 n) (k : Int) (rk : i64 k) : Ok Try.prog 5 [namedA p, intA n, intA k] (.v (boolA true)) := by
  (refine Ok.code hT hM (fn := Try.f5) rfl rfl rfl _ _ rfl rfl (Nat.le_of_ble_eq_true rfl) fun E hE hP ht h0 hrd => ?_; refine Go.run hE 9000 ?_; simp only [Try.f5, evX, reduceIte, reduceCtorEq, Nat.reduceLT, Nat.reduceAdd, Nat.reduceEqDiff, Nat.reduceBEq, Nat.reduceLeDiff, Nat.reduceMul, ttL, tyL, ht])
  (refine CallG.ok hE 9000 (hP ▸ ok_awake14) rfl rfl ?_ <;> simp only [evX, reduceIte, reduceCtorEq, Nat.reduceLT, Nat.reduceAdd, Nat.reduceEqDiff, Nat.reduceBEq, Nat.reduceLeDiff, Nat.reduceMul, ttL, tyL, ht])
  (refine CallG.ok hE 9000 (hP ▸ ok_lightN p 60 bp) rfl rfl ?_ <;> simp only [evX, reduceIte, reduceCtorEq, Nat.reduceLT, Nat.reduceAdd, Nat.reduceEqDiff, Nat.reduceBEq, Nat.reduceLeDiff, Nat.reduceMul, ttL, tyL, ht])
  cases h1 : lightN p 60 <;> simp only [evX, reduceIte, reduceCtorEq, Nat.reduceLT, Nat.reduceAdd, Nat.reduceEqDiff, Nat.reduceBEq, Nat.reduceLeDiff, Nat.reduceMul, ttL, tyL, ht, Bool.not_false, Bool.not_true]
  · exact RetQ.bool (.inr rfl) rfl rfl
  (refine CallG.ok hE 9000 (hP ▸ ok_patchMay p bp rp) rfl rfl ?_ <;> simp only [evX, reduceIte, reduceCtorEq, Nat.reduceLT, Nat.reduceAdd, Nat.reduceEqDiff, Nat.reduceBEq, Nat.reduceLeDiff, Nat.reduceMul, ttL, tyL, ht])
  cases h2 : mayN p <;> simp only [evX, reduceIte, reduceCtorEq, Nat.reduceLT, Nat.reduceAdd, Nat.reduceEqDiff, Nat.reduceBEq, Nat.reduceLeDiff, Nat.reduceMul, ttL, tyL, ht, Bool.not_false, Bool.not_true]
  · exact RetQ.bool (.inr rfl) rfl rfl
  repeat' ((first | refine SelF.byN (fun hb => ?_) (fun hb => ?_) | refine SelF.by (fun hb => ?_) (fun hb => ?_)) <;> simp only [hb, evX, reduceIte, reduceCtorEq, Nat.reduceLT, Nat.reduceAdd, Nat.reduceEqDiff, Nat.reduceBEq, Nat.reduceLeDiff, Nat.reduceMul, ttL, tyL, ht])
  all_goals try exact RetQ.bool (.inr rfl) rfl rfl
  have hn : 0 ≤ n ∧ n ≤ p.deps.length := by simp_all
  have hk : 0 ≤ k ∧ k ≤ p.l.length := by simp_all
  obtain ⟨n, rfl⟩ := Int.eq_ofNat_of_zero_le hn.1
  obtain ⟨k, rfl⟩ := Int.eq_ofNat_of_zero_le hk.1
  (refine StG.by hE ht 9000 rfl ?_ <;> simp only [evX, reduceIte, reduceCtorEq, Nat.reduceLT, Nat.reduceAdd, Nat.reduceEqDiff, Nat.reduceBEq, Nat.reduceLeDiff, Nat.reduceMul, ttL, tyL, ht])
  refine SlcR.by hE 9000 (by simp [rowLen]) (by simp) (by simp; omega) (by simp) ?_
  simp only [evX, reduceIte, reduceCtorEq, Nat.reduceLT, Nat.reduceAdd, Nat.reduceEqDiff, Nat.reduceBEq, Nat.reduceLeDiff, Nat.reduceMul, ttL, tyL, ht]
  rw [show List.drop ((n : Int)).toNat (List.take ((p.deps.length : Int)).toNat (idsC p.deps)) = idsC (p.deps.drop n) by rw [Int.toNat_natCast, Int.toNat_natCast, List.take_of_length_le (by simp)]; exact List.map_drop.symm]
  (refine StG.by hE ht 9000 rfl ?_ <;> simp only [evX, reduceIte, reduceCtorEq, Nat.reduceLT, Nat.reduceAdd, Nat.reduceEqDiff, Nat.reduceBEq, Nat.reduceLeDiff, Nat.reduceMul, ttL, tyL, ht])
  refine SlcR.by hE 9000 (by simp [rowLen]) (by simp) (by simp) (by simp; omega) ?_
  simp only [evX, reduceIte, reduceCtorEq, Nat.reduceLT, Nat.reduceAdd, Nat.reduceEqDiff, Nat.reduceBEq, Nat.reduceLeDiff, Nat.reduceMul, ttL, tyL, ht]
  rw [show List.drop (Int.toNat 0) (List.take ((k : Int)).toNat (primsC p.l)) = primsC (p.l.take k) by rw [Int.toNat_natCast, Int.toNat_zero, List.drop_zero]; exact List.map_take.symm]
  (refine StG.by hE ht 9000 rfl ?_ <;> simp only [evX, reduceIte, reduceCtorEq, Nat.reduceLT, Nat.reduceAdd, Nat.reduceEqDiff, Nat.reduceBEq, Nat.reduceLeDiff, Nat.reduceMul, ttL, tyL, ht])
  have hll := bp.2.1
  simp only [Big] at hll
  have bq : namedB ⟨p.id, p.deps.drop n, p.text, p.l.take k⟩ := ⟨Nat.le_trans (Nat.mul_le_mul_right _ (List.drop_sublist n p.deps).length_le) bp.1, ⟨Nat.le_trans (Nat.mul_le_mul_right _ (List.take_sublist k p.l).length_le) bp.2.1, fun x hx => bp.2.2 x (List.mem_of_mem_take hx)⟩⟩
  have rq : namedR ⟨p.id, p.deps.drop n, p.text, p.l.take k⟩ := ⟨rp.1, fun x hx => rp.2.1 x (List.mem_of_mem_drop hx), fun x hx => rp.2.2 x (List.mem_of_mem_take hx)⟩
  (refine CallG.ok hE 9000 (hP ▸ ok_patchMay ⟨p.id, p.deps.drop n, p.text, p.l.take k⟩ bq rq) rfl rfl ?_ <;> simp only [evX, reduceIte, reduceCtorEq, Nat.reduceLT, Nat.reduceAdd, Nat.reduceEqDiff, Nat.reduceBEq, Nat.reduceLeDiff, Nat.reduceMul, ttL, tyL, ht])
  simp only [mayN_less h2, evX, reduceIte, reduceCtorEq, Nat.reduceLT, Nat.reduceAdd, Nat.reduceEqDiff, Nat.reduceBEq, Nat.reduceLeDiff, Nat.reduceMul, ttL, tyL, ht, Bool.not_true]
  ((first | refine SelF.byN (fun hb => ?_) (fun hb => ?_) | refine SelF.by (fun hb => ?_) (fun hb => ?_)) <;> simp only [hb, evX, reduceIte, reduceCtorEq, Nat.reduceLT, Nat.reduceAdd, Nat.reduceEqDiff, Nat.reduceBEq, Nat.reduceLeDiff, Nat.reduceMul, ttL, tyL, ht])
  · exact RetQ.bool (.inr rfl) rfl rfl
  · have hd0 : 0 < p.deps.length := by
      rcases Nat.eq_zero_or_pos p.deps.length with h | h
      · rw [h] at hb; simp at hb
      · exact h
    have hx := List.getLast?_eq_getElem? (l := p.deps)
    have hlt : p.deps.length - 1 < p.deps.length := by omega
    have hbd := bp.1
    simp only [Big] at hbd
    have hw : IntKind.i64.wrap ((p.deps.length : Int) - 1) = ((p.deps.length - 1 : Nat) : Int) := by rw [IntKind.wrap_i64]; omega
    refine AppG.by hE 9000 rfl rfl (by simp [rowLen]) (by simp; omega) ?_
    simp only [evX, reduceIte, reduceCtorEq, Nat.reduceLT, Nat.reduceAdd, Nat.reduceEqDiff, Nat.reduceBEq, Nat.reduceLeDiff, Nat.reduceMul, ttL, tyL, ht]
    simp only [hw]
    refine IdxR.nat hE 9000 hlt rfl ?_
    simp only [evX, reduceIte, reduceCtorEq, Nat.reduceLT, Nat.reduceAdd, Nat.reduceEqDiff, Nat.reduceBEq, Nat.reduceLeDiff, Nat.reduceMul, ttL, tyL, ht]
    refine AppG.by hE 9000 rfl rfl (by simp [rowLen]) (by simp; omega) ?_
    simp only [evX, reduceIte, reduceCtorEq, Nat.reduceLT, Nat.reduceAdd, Nat.reduceEqDiff, Nat.reduceBEq, Nat.reduceLeDiff, Nat.reduceMul, ttL, tyL, ht]
    refine StG.byD hE ht 9000 rfl (by kernel_rfl) ?_
    simp only [evX, reduceIte, reduceCtorEq, Nat.reduceLT, Nat.reduceAdd, Nat.reduceEqDiff, Nat.reduceBEq, Nat.reduceLeDiff, Nat.reduceMul, ttL, tyL, ht]
    refine HardOp.frzC hE 9000 1 2 4 rfl rfl rfl rfl ?_
    simp only [evX, reduceIte, reduceCtorEq, Nat.reduceLT, Nat.reduceAdd, Nat.reduceEqDiff, Nat.reduceBEq, Nat.reduceLeDiff, Nat.reduceMul, ttL, tyL, ht]
    have hlast : p.deps.getLast? = some p.deps[p.deps.length - 1] := by rw [hx, List.getElem?_eq_getElem hlt]
    rw [show idsC p.deps ++ [[.sc (.int .i64 p.deps[p.deps.length - 1].who), .sc (.int .i64 p.deps[p.deps.length - 1].no)]] = idsC (p.deps ++ [p.deps[p.deps.length - 1]]) by simp]
    have bq2 : namedB ⟨p.id, p.deps ++ [p.deps[p.deps.length - 1]], p.text, p.l.take k⟩ := ⟨by simp only [List.length_append, List.length_singleton, Big]; have := h2; simp [mayN] at this; omega, bq.2⟩
    have rq2 : namedR ⟨p.id, p.deps ++ [p.deps[p.deps.length - 1]], p.text, p.l.take k⟩ := ⟨rp.1, fun x hx => by
      rcases List.mem_append.1 hx with h | h
      · exact rp.2.1 x h
      · rw [List.mem_singleton] at h; rw [h]; exact rp.2.1 _ (List.getElem_mem hlt), rq.2.2⟩
    (refine CallG.ok hE 9000 (hP ▸ ok_patchMay ⟨p.id, p.deps ++ [p.deps[p.deps.length - 1]], p.text, p.l.take k⟩ bq2 rq2) rfl rfl ?_ <;> simp only [evX, reduceIte, reduceCtorEq, Nat.reduceLT, Nat.reduceAdd, Nat.reduceEqDiff, Nat.reduceBEq, Nat.reduceLeDiff, Nat.reduceMul, ttL, tyL, ht])
    exact RetQ.bool (.inr rfl) rfl (by rw [mayN_twice hlast]; rfl)
end Go.Proofs.Ytmijejoddoolpaa
