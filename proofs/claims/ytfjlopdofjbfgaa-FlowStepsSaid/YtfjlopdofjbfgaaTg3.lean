/- The laws of lists of changes that pass one another, steps and turns. -/
import Derived.Test.YtfjlopdofjbfgaaTg1
namespace Go.Proofs.Ytfjlopdofjbfgaa
open Go.Vam Go.Qm
set_option linter.unusedVariables false
set_option linter.unusedSimpArgs false
set_option maxRecDepth 8000
set_option maxHeartbeats 2000000

theorem law_FlowSteps (t : List File) (bt : treeB t) (l : List Prim) (bl : primsB l) (rl : ∀ p ∈ l, primR p) : Ok Try.prog 6 [treeA t, primsA l] (.v (boolA true)) := by
  have ll := bl.1
  simp only [Big] at ll
  (refine Ok.code hT hM (fn := Try.f6) rfl rfl rfl _ _ rfl rfl (Nat.le_of_ble_eq_true rfl) fun E hE hP ht h0 hrd => ?_; refine Go.run hE 9000 ?_; simp only [Try.f6, evX, reduceIte, reduceCtorEq, Nat.reduceLT, Nat.reduceAdd, Nat.reduceEqDiff, Nat.reduceBEq, Nat.reduceLeDiff, Nat.reduceMul, ttL, tyL, ht])
  (refine CallG.ok hE 9000 (hP ▸ ok_awake10) rfl rfl ?_ <;> simp only [evX, reduceIte, reduceCtorEq, Nat.reduceLT, Nat.reduceAdd, Nat.reduceEqDiff, Nat.reduceBEq, Nat.reduceLeDiff, Nat.reduceMul, ttL, tyL, ht])
  (refine CallG.ok hE 9000 (hP ▸ ok_lightT t bt) rfl rfl ?_ <;> simp only [evX, reduceIte, reduceCtorEq, Nat.reduceLT, Nat.reduceAdd, Nat.reduceEqDiff, Nat.reduceBEq, Nat.reduceLeDiff, Nat.reduceMul, ttL, tyL, ht])
  (refine CallG.ok hE 9000 (hP ▸ ok_Few l 30 (by omega) bl.2) rfl rfl ?_ <;> simp only [evX, reduceIte, reduceCtorEq, Nat.reduceLT, Nat.reduceAdd, Nat.reduceEqDiff, Nat.reduceBEq, Nat.reduceLeDiff, Nat.reduceMul, ttL, tyL, ht])
  cases h1 : treeLight t <;> simp only [evX, reduceIte, reduceCtorEq, Nat.reduceLT, Nat.reduceAdd, Nat.reduceEqDiff, Nat.reduceBEq, Nat.reduceLeDiff, Nat.reduceMul, ttL, tyL, ht, Bool.not_false, Bool.not_true]
  · exact RetQ.bool (.inr rfl) rfl rfl
  cases h2 : few l 30 <;> simp only [evX, reduceIte, reduceCtorEq, Nat.reduceLT, Nat.reduceAdd, Nat.reduceEqDiff, Nat.reduceBEq, Nat.reduceLeDiff, Nat.reduceMul, ttL, tyL, ht, Bool.not_false, Bool.not_true]
  · exact RetQ.bool (.inr rfl) rfl rfl
  have ll' := few_len h2
  have nt := light_N bt h1
  cases l with
  | nil =>
    have c0 : ((([] : List Prim).length : Int) == 0) = true := rfl
    simp only [c0, evX, reduceIte, reduceCtorEq, Nat.reduceLT, Nat.reduceAdd, Nat.reduceEqDiff, Nat.reduceBEq, Nat.reduceLeDiff, Nat.reduceMul, ttL, tyL, ht]
    exact RetQ.bool (.inr rfl) rfl rfl
  | cons p l =>
    have c0 : (((l.length + 1 : Nat) : Int) == 0) = false := by rw [beq_eq_false_iff_ne]; omega
    (refine CallG.ok hE 9000 (hP ▸ ok_flowApply t (p :: l) nt (by omega) bl.2 rl (Nat.le_trans (m := 1000 * 40) (Nat.mul_le_mul_right _ (by omega)) (by decide)) (Nat.le_trans (m := 100000 * 16) (Nat.mul_le_mul_right _ (by omega)) (by decide))) rfl rfl ?_ <;> simp only [evX, reduceIte, reduceCtorEq, Nat.reduceLT, Nat.reduceAdd, Nat.reduceEqDiff, Nat.reduceBEq, Nat.reduceLeDiff, Nat.reduceMul, ttL, tyL, ht])
    simp only [c0, evX, reduceIte, reduceCtorEq, Nat.reduceLT, Nat.reduceAdd, Nat.reduceEqDiff, Nat.reduceBEq, Nat.reduceLeDiff, Nat.reduceMul, ttL, tyL, ht]
    refine IdxR.by hE 9000 (by decide) rfl rfl ?_
    simp only [evX, reduceIte, reduceCtorEq, Nat.reduceLT, Nat.reduceAdd, Nat.reduceEqDiff, Nat.reduceBEq, Nat.reduceLeDiff, Nat.reduceMul, ttL, tyL, ht]
    (refine CallG.ok hE 9000 (hP ▸ ok_apply t p bt (bl.2 p (by simp)) (rl p (by simp))) rfl rfl ?_ <;> simp only [evX, reduceIte, reduceCtorEq, Nat.reduceLT, Nat.reduceAdd, Nat.reduceEqDiff, Nat.reduceBEq, Nat.reduceLeDiff, Nat.reduceMul, ttL, tyL, ht])
    ((first | refine SelF.byN (fun hb => ?_) (fun hb => ?_) | refine SelF.by (fun hb => ?_) (fun hb => ?_)) <;> simp only [hb, evX, reduceIte, reduceCtorEq, Nat.reduceLT, Nat.reduceAdd, Nat.reduceEqDiff, Nat.reduceBEq, Nat.reduceLeDiff, Nat.reduceMul, ttL, tyL, ht])
    · have h3 : (applyP t p).2 ≠ 0 := by simpa using hb
      have e : runL t (p :: l) = ([], (applyP t p).2) := by rw [runL, if_neg h3]
      have c1 : (((0 : Nat) : Int) == 0) = true := rfl
      simp only [e, beq_self_eq_true, evX, reduceIte, reduceCtorEq, Nat.reduceLT, Nat.reduceAdd, Nat.reduceEqDiff, Nat.reduceBEq, Nat.reduceLeDiff, Nat.reduceMul, ttL, tyL, ht]
      simp only [c1, evX, reduceIte, reduceCtorEq, Nat.reduceLT, Nat.reduceAdd, Nat.reduceEqDiff, Nat.reduceBEq, Nat.reduceLeDiff, Nat.reduceMul, ttL, tyL, ht]
      exact RetQ.bool (.inr rfl) rfl rfl
    · have h3 : (applyP t p).2 = 0 := by simpa using hb
      have e : runL t (p :: l) = runL (applyP t p).1 l := by rw [runL, if_pos h3]
      have nv := apply_N nt (rl p (by simp))
      have bl' : ∀ q ∈ l, primB q := fun q hq => bl.2 q (by simp [hq])
      have rl' : ∀ q ∈ l, primR q := fun q hq => rl q (by simp [hq])
      simp only [List.length_cons] at ll ll'
      refine SlcR.by hE 9000 (by simp [rowLen]) (by decide) (by simp; omega) (by simp) ?_
      simp only [evX, reduceIte, reduceCtorEq, Nat.reduceLT, Nat.reduceAdd, Nat.reduceEqDiff, Nat.reduceBEq, Nat.reduceLeDiff, Nat.reduceMul, ttL, tyL, ht]
      have hd : List.drop (Int.toNat 1) (List.take (((l.length + 1 : Nat) : Int)).toNat (primC p :: List.map primC l)) = primsC l := by
        rw [Int.toNat_natCast, List.take_of_length_le (by simp)]; rfl
      rw [hd]
      (refine CallG.ok hE 9000 (hP ▸ ok_flowApply (applyP t p).1 l nv (by omega) bl' rl' (Nat.le_trans (m := 1000 * 40) (Nat.mul_le_mul_right _ (by omega)) (by decide)) (Nat.le_trans (m := 100000 * 16) (Nat.mul_le_mul_right _ (by omega)) (by decide))) rfl rfl ?_ <;> simp only [evX, reduceIte, reduceCtorEq, Nat.reduceLT, Nat.reduceAdd, Nat.reduceEqDiff, Nat.reduceBEq, Nat.reduceLeDiff, Nat.reduceMul, ttL, tyL, ht])
      rw [← e]
      simp only [beq_self_eq_true, evX, reduceIte, reduceCtorEq, Nat.reduceLT, Nat.reduceAdd, Nat.reduceEqDiff, Nat.reduceBEq, Nat.reduceLeDiff, Nat.reduceMul, ttL, tyL, ht]
      have hB : treeB (runL t (p :: l)).1 := (runL_N nt rl).B (Nat.le_trans (m := 1000 * 40) (Nat.mul_le_mul_right _ (by simp only [List.length_cons]; omega)) (by decide)) (Nat.le_trans (m := 100000 * 16) (Nat.mul_le_mul_right _ (by simp only [List.length_cons]; omega)) (by decide))
      (refine CallG.ok hE 9000 (hP ▸ ok_treeSame (runL t (p :: l)).1 (runL t (p :: l)).1 hB) rfl rfl ?_ <;> simp only [evX, reduceIte, reduceCtorEq, Nat.reduceLT, Nat.reduceAdd, Nat.reduceEqDiff, Nat.reduceBEq, Nat.reduceLeDiff, Nat.reduceMul, ttL, tyL, ht])
      exact RetQ.bool (.inr rfl) rfl (treeEq_refl _)
theorem law_FlowSame (t : List File) (bt : treeB t) (a : List Prim) (ba : primsB a) (ra : ∀ p ∈ a, primR p) (b : List Prim) (bb : primsB b) (rb : ∀ p ∈ b, primR p) : Ok Try.prog 7 [treeA t, primsA a, primsA b] (.v (boolA true)) := by
  have la := ba.1
  have lb := bb.1
  simp only [Big] at la lb
  (refine Ok.code hT hM (fn := Try.f7) rfl rfl rfl _ _ rfl rfl (Nat.le_of_ble_eq_true rfl) fun E hE hP ht h0 hrd => ?_; refine Go.run hE 9000 ?_; simp only [Try.f7, evX, reduceIte, reduceCtorEq, Nat.reduceLT, Nat.reduceAdd, Nat.reduceEqDiff, Nat.reduceBEq, Nat.reduceLeDiff, Nat.reduceMul, ttL, tyL, ht])
  (refine CallG.ok hE 9000 (hP ▸ ok_awake10) rfl rfl ?_ <;> simp only [evX, reduceIte, reduceCtorEq, Nat.reduceLT, Nat.reduceAdd, Nat.reduceEqDiff, Nat.reduceBEq, Nat.reduceLeDiff, Nat.reduceMul, ttL, tyL, ht])
  (refine CallG.ok hE 9000 (hP ▸ ok_lightT t bt) rfl rfl ?_ <;> simp only [evX, reduceIte, reduceCtorEq, Nat.reduceLT, Nat.reduceAdd, Nat.reduceEqDiff, Nat.reduceBEq, Nat.reduceLeDiff, Nat.reduceMul, ttL, tyL, ht])
  (refine CallG.ok hE 9000 (hP ▸ ok_Few a 20 (by omega) ba.2) rfl rfl ?_ <;> simp only [evX, reduceIte, reduceCtorEq, Nat.reduceLT, Nat.reduceAdd, Nat.reduceEqDiff, Nat.reduceBEq, Nat.reduceLeDiff, Nat.reduceMul, ttL, tyL, ht])
  (refine CallG.ok hE 9000 (hP ▸ ok_Few b 20 (by omega) bb.2) rfl rfl ?_ <;> simp only [evX, reduceIte, reduceCtorEq, Nat.reduceLT, Nat.reduceAdd, Nat.reduceEqDiff, Nat.reduceBEq, Nat.reduceLeDiff, Nat.reduceMul, ttL, tyL, ht])
  cases h1 : treeLight t <;> simp only [evX, reduceIte, reduceCtorEq, Nat.reduceLT, Nat.reduceAdd, Nat.reduceEqDiff, Nat.reduceBEq, Nat.reduceLeDiff, Nat.reduceMul, ttL, tyL, ht, Bool.not_false, Bool.not_true]
  · exact RetQ.bool (.inr rfl) rfl rfl
  cases h2 : few a 20 <;> simp only [evX, reduceIte, reduceCtorEq, Nat.reduceLT, Nat.reduceAdd, Nat.reduceEqDiff, Nat.reduceBEq, Nat.reduceLeDiff, Nat.reduceMul, ttL, tyL, ht, Bool.not_false, Bool.not_true]
  · exact RetQ.bool (.inr rfl) rfl rfl
  cases h3 : few b 20 <;> simp only [evX, reduceIte, reduceCtorEq, Nat.reduceLT, Nat.reduceAdd, Nat.reduceEqDiff, Nat.reduceBEq, Nat.reduceLeDiff, Nat.reduceMul, ttL, tyL, ht, Bool.not_false, Bool.not_true]
  · exact RetQ.bool (.inr rfl) rfl rfl
  (refine CallG.ok hE 9000 (hP ▸ ok_treeMay t bt) rfl rfl ?_ <;> simp only [evX, reduceIte, reduceCtorEq, Nat.reduceLT, Nat.reduceAdd, Nat.reduceEqDiff, Nat.reduceBEq, Nat.reduceLeDiff, Nat.reduceMul, ttL, tyL, ht])
  cases h4 : treeMay t <;> simp only [evX, reduceIte, reduceCtorEq, Nat.reduceLT, Nat.reduceAdd, Nat.reduceEqDiff, Nat.reduceBEq, Nat.reduceLeDiff, Nat.reduceMul, ttL, tyL, ht, Bool.not_false, Bool.not_true]
  · exact RetQ.bool (.inr rfl) rfl rfl
  have la' := few_len h2
  have lb' := few_len h3
  have nt := light_N bt h1
  have ka := okPs ba ra
  have kb := okPs bb rb
  have kab : ∀ p ∈ a ++ b, okP p := fun p hp => by rcases List.mem_append.1 hp with h | h; exact ka p h; exact kb p h
  have kk := passLT_keep ka kb
  have ll := passLT_len (a := a) (b := b)
  have kxy : ∀ p ∈ (passLT a b).1 ++ (passLT a b).2.1, okP p := fun p hp => by rcases List.mem_append.1 hp with h | h; exact kk.1 p h; exact kk.2 p h
  have lab : (a ++ b).length ≤ 40 := by rw [List.length_append]; omega
  have lxy : ((passLT a b).1 ++ (passLT a b).2.1).length ≤ 40 := by rw [List.length_append]; omega
  (refine CallG.ok hE 9000 (hP ▸ ok_flowPass a b (by omega) (by omega) ka kb) rfl rfl ?_ <;> simp only [evX, reduceIte, reduceCtorEq, Nat.reduceLT, Nat.reduceAdd, Nat.reduceEqDiff, Nat.reduceBEq, Nat.reduceLeDiff, Nat.reduceMul, ttL, tyL, ht])
  refine AppG.by hE 9000 rfl rfl (rowLen_prims _) (by simp; omega) ?_
  simp only [evX, reduceIte, reduceCtorEq, Nat.reduceLT, Nat.reduceAdd, Nat.reduceEqDiff, Nat.reduceBEq, Nat.reduceLeDiff, Nat.reduceMul, ttL, tyL, ht]
  refine AppG.by hE 9000 rfl rfl (rowLen_prims _) (by simp; omega) ?_
  simp only [evX, reduceIte, reduceCtorEq, Nat.reduceLT, Nat.reduceAdd, Nat.reduceEqDiff, Nat.reduceBEq, Nat.reduceLeDiff, Nat.reduceMul, ttL, tyL, ht]
  rw [← List.map_append]
  (refine CallG.ok hE 9000 (hP ▸ ok_flowApply t (a ++ b) nt (by omega) (fun p hp => (kab p hp).1) (fun p hp => (kab p hp).2) (Nat.le_trans (m := 1000 * 40) (Nat.mul_le_mul_right _ (by omega)) (by decide)) (Nat.le_trans (m := 100000 * 16) (Nat.mul_le_mul_right _ (by omega)) (by decide))) rfl rfl ?_ <;> simp only [evX, reduceIte, reduceCtorEq, Nat.reduceLT, Nat.reduceAdd, Nat.reduceEqDiff, Nat.reduceBEq, Nat.reduceLeDiff, Nat.reduceMul, ttL, tyL, ht])
  cases h5 : (passLT a b).2.2 <;> simp only [evX, reduceIte, reduceCtorEq, Nat.reduceLT, Nat.reduceAdd, Nat.reduceEqDiff, Nat.reduceBEq, Nat.reduceLeDiff, Nat.reduceMul, ttL, tyL, ht, Bool.not_false, Bool.not_true]
  · exact RetQ.bool (.inr rfl) rfl rfl
  ((first | refine SelF.byN (fun hb => ?_) (fun hb => ?_) | refine SelF.by (fun hb => ?_) (fun hb => ?_)) <;> simp only [hb, evX, reduceIte, reduceCtorEq, Nat.reduceLT, Nat.reduceAdd, Nat.reduceEqDiff, Nat.reduceBEq, Nat.reduceLeDiff, Nat.reduceMul, ttL, tyL, ht])
  · exact RetQ.bool (.inr rfl) rfl rfl
  · have h6 : (runL t (a ++ b)).2 = 0 := by simpa using hb
    have e := passL_same (treeMay_srt h4) h6 (passLT_some h5)
    refine AppG.by hE 9000 rfl rfl (rowLen_prims _) (by simp; omega) ?_
    simp only [evX, reduceIte, reduceCtorEq, Nat.reduceLT, Nat.reduceAdd, Nat.reduceEqDiff, Nat.reduceBEq, Nat.reduceLeDiff, Nat.reduceMul, ttL, tyL, ht]
    refine AppG.by hE 9000 rfl rfl (rowLen_prims _) (by simp; omega) ?_
    simp only [evX, reduceIte, reduceCtorEq, Nat.reduceLT, Nat.reduceAdd, Nat.reduceEqDiff, Nat.reduceBEq, Nat.reduceLeDiff, Nat.reduceMul, ttL, tyL, ht]
    rw [← List.map_append]
    (refine CallG.ok hE 9000 (hP ▸ ok_flowApply t ((passLT a b).1 ++ (passLT a b).2.1) nt (by omega) (fun p hp => (kxy p hp).1) (fun p hp => (kxy p hp).2) (Nat.le_trans (m := 1000 * 40) (Nat.mul_le_mul_right _ (by omega)) (by decide)) (Nat.le_trans (m := 100000 * 16) (Nat.mul_le_mul_right _ (by omega)) (by decide))) rfl rfl ?_ <;> simp only [evX, reduceIte, reduceCtorEq, Nat.reduceLT, Nat.reduceAdd, Nat.reduceEqDiff, Nat.reduceBEq, Nat.reduceLeDiff, Nat.reduceMul, ttL, tyL, ht])
    simp only [e, h6, evX, reduceIte, reduceCtorEq, Nat.reduceLT, Nat.reduceAdd, Nat.reduceEqDiff, Nat.reduceBEq, Nat.reduceLeDiff, Nat.reduceMul, ttL, tyL, ht, Int.reduceBEq]
    have hB : treeB (runL t (a ++ b)).1 := (runL_N nt (fun p hp => (kab p hp).2)).B (Nat.le_trans (m := 1000 * 40) (Nat.mul_le_mul_right _ (by omega)) (by decide)) (Nat.le_trans (m := 100000 * 16) (Nat.mul_le_mul_right _ (by omega)) (by decide))
    (refine CallG.ok hE 9000 (hP ▸ ok_treeSame (runL t (a ++ b)).1 (runL t (a ++ b)).1 hB) rfl rfl ?_ <;> simp only [evX, reduceIte, reduceCtorEq, Nat.reduceLT, Nat.reduceAdd, Nat.reduceEqDiff, Nat.reduceBEq, Nat.reduceLeDiff, Nat.reduceMul, ttL, tyL, ht])
    exact RetQ.bool (.inr rfl) rfl (treeEq_refl _)
theorem law_FlowTurns (t : List File) (bt : treeB t) (l : List Prim) (bl : primsB l) (rl : ∀ p ∈ l, primR p) : Ok Try.prog 8 [treeA t, primsA l] (.v (boolA true)) := by
  have ll := bl.1
  simp only [Big] at ll
  have bT := turnL_B bl.2
  have rT : ∀ p ∈ turnL l, primR p := fun p hp => by
    obtain ⟨q, hq, rfl⟩ := List.mem_map.1 hp
    exact turnP_R (rl q (by simpa using hq))
  have lT : (turnL l).length = l.length := by simp
  (refine Ok.code hT hM (fn := Try.f8) rfl rfl rfl _ _ rfl rfl (Nat.le_of_ble_eq_true rfl) fun E hE hP ht h0 hrd => ?_; refine Go.run hE 9000 ?_; simp only [Try.f8, evX, reduceIte, reduceCtorEq, Nat.reduceLT, Nat.reduceAdd, Nat.reduceEqDiff, Nat.reduceBEq, Nat.reduceLeDiff, Nat.reduceMul, ttL, tyL, ht])
  (refine CallG.ok hE 9000 (hP ▸ ok_awake10) rfl rfl ?_ <;> simp only [evX, reduceIte, reduceCtorEq, Nat.reduceLT, Nat.reduceAdd, Nat.reduceEqDiff, Nat.reduceBEq, Nat.reduceLeDiff, Nat.reduceMul, ttL, tyL, ht])
  (refine CallG.ok hE 9000 (hP ▸ ok_lightT t bt) rfl rfl ?_ <;> simp only [evX, reduceIte, reduceCtorEq, Nat.reduceLT, Nat.reduceAdd, Nat.reduceEqDiff, Nat.reduceBEq, Nat.reduceLeDiff, Nat.reduceMul, ttL, tyL, ht])
  (refine CallG.ok hE 9000 (hP ▸ ok_Few l 30 (by omega) bl.2) rfl rfl ?_ <;> simp only [evX, reduceIte, reduceCtorEq, Nat.reduceLT, Nat.reduceAdd, Nat.reduceEqDiff, Nat.reduceBEq, Nat.reduceLeDiff, Nat.reduceMul, ttL, tyL, ht])
  cases h1 : treeLight t <;> simp only [evX, reduceIte, reduceCtorEq, Nat.reduceLT, Nat.reduceAdd, Nat.reduceEqDiff, Nat.reduceBEq, Nat.reduceLeDiff, Nat.reduceMul, ttL, tyL, ht, Bool.not_false, Bool.not_true]
  · exact RetQ.bool (.inr rfl) rfl rfl
  cases h2 : few l 30 <;> simp only [evX, reduceIte, reduceCtorEq, Nat.reduceLT, Nat.reduceAdd, Nat.reduceEqDiff, Nat.reduceBEq, Nat.reduceLeDiff, Nat.reduceMul, ttL, tyL, ht, Bool.not_false, Bool.not_true]
  · exact RetQ.bool (.inr rfl) rfl rfl
  (refine CallG.ok hE 9000 (hP ▸ ok_treeMay t bt) rfl rfl ?_ <;> simp only [evX, reduceIte, reduceCtorEq, Nat.reduceLT, Nat.reduceAdd, Nat.reduceEqDiff, Nat.reduceBEq, Nat.reduceLeDiff, Nat.reduceMul, ttL, tyL, ht])
  cases h4 : treeMay t <;> simp only [evX, reduceIte, reduceCtorEq, Nat.reduceLT, Nat.reduceAdd, Nat.reduceEqDiff, Nat.reduceBEq, Nat.reduceLeDiff, Nat.reduceMul, ttL, tyL, ht, Bool.not_false, Bool.not_true]
  · exact RetQ.bool (.inr rfl) rfl rfl
  have ll' := few_len h2
  have nt := light_N bt h1
  (refine CallG.ok hE 9000 (hP ▸ ok_Turn l (by omega) bl.2) rfl rfl ?_ <;> simp only [evX, reduceIte, reduceCtorEq, Nat.reduceLT, Nat.reduceAdd, Nat.reduceEqDiff, Nat.reduceBEq, Nat.reduceLeDiff, Nat.reduceMul, ttL, tyL, ht])
  (refine CallG.ok hE 9000 (hP ▸ ok_Turn (turnL l) (by omega) bT) rfl rfl ?_ <;> simp only [evX, reduceIte, reduceCtorEq, Nat.reduceLT, Nat.reduceAdd, Nat.reduceEqDiff, Nat.reduceBEq, Nat.reduceLeDiff, Nat.reduceMul, ttL, tyL, ht])
  rw [turn_turn]
  (refine CallG.ok hE 9000 (hP ▸ ok_flowSame l l (by omega) bl.2) rfl rfl ?_ <;> simp only [evX, reduceIte, reduceCtorEq, Nat.reduceLT, Nat.reduceAdd, Nat.reduceEqDiff, Nat.reduceBEq, Nat.reduceLeDiff, Nat.reduceMul, ttL, tyL, ht])
  simp only [all2_refl, evX, reduceIte, reduceCtorEq, Nat.reduceLT, Nat.reduceAdd, Nat.reduceEqDiff, Nat.reduceBEq, Nat.reduceLeDiff, Nat.reduceMul, ttL, tyL, ht, Bool.not_true]
  (refine CallG.ok hE 9000 (hP ▸ ok_flowApply t l nt (by omega) bl.2 rl (Nat.le_trans (m := 1000 * 40) (Nat.mul_le_mul_right _ (by omega)) (by decide)) (Nat.le_trans (m := 100000 * 16) (Nat.mul_le_mul_right _ (by omega)) (by decide))) rfl rfl ?_ <;> simp only [evX, reduceIte, reduceCtorEq, Nat.reduceLT, Nat.reduceAdd, Nat.reduceEqDiff, Nat.reduceBEq, Nat.reduceLeDiff, Nat.reduceMul, ttL, tyL, ht])
  ((first | refine SelF.byN (fun hb => ?_) (fun hb => ?_) | refine SelF.by (fun hb => ?_) (fun hb => ?_)) <;> simp only [hb, evX, reduceIte, reduceCtorEq, Nat.reduceLT, Nat.reduceAdd, Nat.reduceEqDiff, Nat.reduceBEq, Nat.reduceLeDiff, Nat.reduceMul, ttL, tyL, ht])
  · have h5 : (runL t l).2 ≠ 0 := by simpa using hb
    exact RetQ.bool (.inr rfl) rfl (by rw [runL_err h5]; rfl)
  · have h5 : (runL t l).2 = 0 := by simpa using hb
    have e := run_turn (treeMay_srt h4) h5
    have nv := runL_N nt rl
    (refine CallG.ok hE 9000 (hP ▸ ok_Turn l (by omega) bl.2) rfl rfl ?_ <;> simp only [evX, reduceIte, reduceCtorEq, Nat.reduceLT, Nat.reduceAdd, Nat.reduceEqDiff, Nat.reduceBEq, Nat.reduceLeDiff, Nat.reduceMul, ttL, tyL, ht])
    (refine CallG.ok hE 9000 (hP ▸ ok_flowApply (runL t l).1 (turnL l) nv (by omega) bT rT (Nat.le_trans (m := 1000 * 40) (Nat.mul_le_mul_right _ (by omega)) (by decide)) (Nat.le_trans (m := 100000 * 16) (Nat.mul_le_mul_right _ (by omega)) (by decide))) rfl rfl ?_ <;> simp only [evX, reduceIte, reduceCtorEq, Nat.reduceLT, Nat.reduceAdd, Nat.reduceEqDiff, Nat.reduceBEq, Nat.reduceLeDiff, Nat.reduceMul, ttL, tyL, ht])
    simp only [e, evX, reduceIte, reduceCtorEq, Nat.reduceLT, Nat.reduceAdd, Nat.reduceEqDiff, Nat.reduceBEq, Nat.reduceLeDiff, Nat.reduceMul, ttL, tyL, ht, Int.reduceBEq]
    (refine CallG.ok hE 9000 (hP ▸ ok_treeSame t t bt) rfl rfl ?_ <;> simp only [evX, reduceIte, reduceCtorEq, Nat.reduceLT, Nat.reduceAdd, Nat.reduceEqDiff, Nat.reduceBEq, Nat.reduceLeDiff, Nat.reduceMul, ttL, tyL, ht])
    exact RetQ.bool (.inr rfl) rfl (treeEq_refl t)
end Go.Proofs.Ytfjlopdofjbfgaa
