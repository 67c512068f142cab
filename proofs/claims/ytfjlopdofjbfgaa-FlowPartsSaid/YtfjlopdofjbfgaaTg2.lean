/- The laws of lists of changes that pass one another, the rest. -/
import Derived.Test.YtfjlopdofjbfgaaTg1
namespace Go.Proofs.Ytfjlopdofjbfgaa
open Go.Vam Go.Qm
set_option linter.unusedVariables false
set_option linter.unusedSimpArgs false
set_option maxRecDepth 8000
set_option maxHeartbeats 2000000

theorem flow_left (a b c : List Prim) : passLT (a ++ b) c = if (passLT b c).2.2 = true ∧ (passLT a (passLT b c).1).2.2 = true then ((passLT a (passLT b c).1).1, (passLT a (passLT b c).1).2.1 ++ (passLT b c).2.1, true) else ([], [], false) := by
  split
  · rename_i h
    exact passLT_of (passL_left.2 ⟨_, _, _, passLT_some h.1, passLT_some h.2, rfl⟩)
  · rename_i h
    cases hp : (passLT (a ++ b) c).2.2 with
    | false => exact passLT_none hp
    | true =>
      exfalso
      obtain ⟨b', d', a', h1, h2, h3⟩ := passL_left.1 (passLT_some hp)
      have e1 := passLT_of h1
      refine h ⟨by rw [e1], ?_⟩
      rw [e1]
      simp only
      rw [passLT_of h2]
theorem flow_right (a b c : List Prim) : passLT a (b ++ c) = if (passLT a b).2.2 = true ∧ (passLT (passLT a b).2.1 c).2.2 = true then ((passLT a b).1 ++ (passLT (passLT a b).2.1 c).1, (passLT (passLT a b).2.1 c).2.1, true) else ([], [], false) := by
  split
  · rename_i h
    exact passLT_of (passL_right.2 ⟨_, _, _, passLT_some h.1, passLT_some h.2, rfl⟩)
  · rename_i h
    cases hp : (passLT a (b ++ c)).2.2 with
    | false => exact passLT_none hp
    | true =>
      exfalso
      obtain ⟨b', c', a', h1, h2, h3⟩ := passL_right.1 (passLT_some hp)
      have e1 := passLT_of h1
      refine h ⟨by rw [e1], ?_⟩
      rw [e1]
      simp only
      rw [passLT_of h2]
theorem law_FlowParts (a : List Prim) (ba : primsB a) (ra : ∀ p ∈ a, primR p) (b : List Prim) (bb : primsB b) (rb : ∀ p ∈ b, primR p) (c : List Prim) (bc : primsB c) (rc : ∀ p ∈ c, primR p) : Ok Try.prog 4 [primsA a, primsA b, primsA c] (.v (boolA true)) := by
  have la := ba.1
  have lb := bb.1
  have lc := bc.1
  simp only [Big] at la lb lc
  (refine Ok.code hT hM (fn := Try.f4) rfl rfl rfl _ _ rfl rfl (Nat.le_of_ble_eq_true rfl) fun E hE hP ht h0 hrd => ?_; refine Go.run hE 9000 ?_; simp only [Try.f4, evX, reduceIte, reduceCtorEq, Nat.reduceLT, Nat.reduceAdd, Nat.reduceEqDiff, Nat.reduceBEq, Nat.reduceLeDiff, Nat.reduceMul, ttL, tyL, ht])
  (refine CallG.ok hE 9000 (hP ▸ ok_awake10) rfl rfl ?_ <;> simp only [evX, reduceIte, reduceCtorEq, Nat.reduceLT, Nat.reduceAdd, Nat.reduceEqDiff, Nat.reduceBEq, Nat.reduceLeDiff, Nat.reduceMul, ttL, tyL, ht])
  (refine CallG.ok hE 9000 (hP ▸ ok_Few a 10 (by omega) ba.2) rfl rfl ?_ <;> simp only [evX, reduceIte, reduceCtorEq, Nat.reduceLT, Nat.reduceAdd, Nat.reduceEqDiff, Nat.reduceBEq, Nat.reduceLeDiff, Nat.reduceMul, ttL, tyL, ht])
  (refine CallG.ok hE 9000 (hP ▸ ok_Few b 10 (by omega) bb.2) rfl rfl ?_ <;> simp only [evX, reduceIte, reduceCtorEq, Nat.reduceLT, Nat.reduceAdd, Nat.reduceEqDiff, Nat.reduceBEq, Nat.reduceLeDiff, Nat.reduceMul, ttL, tyL, ht])
  (refine CallG.ok hE 9000 (hP ▸ ok_Few c 10 (by omega) bc.2) rfl rfl ?_ <;> simp only [evX, reduceIte, reduceCtorEq, Nat.reduceLT, Nat.reduceAdd, Nat.reduceEqDiff, Nat.reduceBEq, Nat.reduceLeDiff, Nat.reduceMul, ttL, tyL, ht])
  cases h1 : few a 10 <;> simp only [evX, reduceIte, reduceCtorEq, Nat.reduceLT, Nat.reduceAdd, Nat.reduceEqDiff, Nat.reduceBEq, Nat.reduceLeDiff, Nat.reduceMul, ttL, tyL, ht, Bool.not_false, Bool.not_true]
  · exact RetQ.bool (.inr rfl) rfl rfl
  cases h2 : few b 10 <;> simp only [evX, reduceIte, reduceCtorEq, Nat.reduceLT, Nat.reduceAdd, Nat.reduceEqDiff, Nat.reduceBEq, Nat.reduceLeDiff, Nat.reduceMul, ttL, tyL, ht, Bool.not_false, Bool.not_true]
  · exact RetQ.bool (.inr rfl) rfl rfl
  cases h3 : few c 10 <;> simp only [evX, reduceIte, reduceCtorEq, Nat.reduceLT, Nat.reduceAdd, Nat.reduceEqDiff, Nat.reduceBEq, Nat.reduceLeDiff, Nat.reduceMul, ttL, tyL, ht, Bool.not_false, Bool.not_true]
  · exact RetQ.bool (.inr rfl) rfl rfl
  have la' := few_len h1
  have lb' := few_len h2
  have lc' := few_len h3
  have ka := okPs ba ra
  have kb := okPs bb rb
  have kc := okPs bc rc
  have kab : ∀ p ∈ a ++ b, okP p := fun p hp => by rcases List.mem_append.1 hp with h | h; exact ka p h; exact kb p h
  have kbc : ∀ p ∈ b ++ c, okP p := fun p hp => by rcases List.mem_append.1 hp with h | h; exact kb p h; exact kc p h
  have lab : (a ++ b).length ≤ 20 := by rw [List.length_append]; omega
  have lbc : (b ++ c).length ≤ 20 := by rw [List.length_append]; omega
  have K1 := passLT_keep kb kc
  have L1 := passLT_len (a := b) (b := c)
  have K2 := passLT_keep ka K1.1
  have L2 := passLT_len (a := a) (b := (passLT b c).1)
  have K3 := passLT_keep ka kb
  have L3 := passLT_len (a := a) (b := b)
  have K4 := passLT_keep K3.2 kc
  have L4 := passLT_len (a := (passLT a b).2.1) (b := c)
  refine AppG.by hE 9000 rfl rfl (rowLen_prims _) (by simp; omega) ?_
  simp only [evX, reduceIte, reduceCtorEq, Nat.reduceLT, Nat.reduceAdd, Nat.reduceEqDiff, Nat.reduceBEq, Nat.reduceLeDiff, Nat.reduceMul, ttL, tyL, ht]
  refine AppG.by hE 9000 rfl rfl (rowLen_prims _) (by simp; omega) ?_
  simp only [evX, reduceIte, reduceCtorEq, Nat.reduceLT, Nat.reduceAdd, Nat.reduceEqDiff, Nat.reduceBEq, Nat.reduceLeDiff, Nat.reduceMul, ttL, tyL, ht]
  rw [← List.map_append]
  refine AppG.by hE 9000 rfl rfl (rowLen_prims _) (by simp; omega) ?_
  simp only [evX, reduceIte, reduceCtorEq, Nat.reduceLT, Nat.reduceAdd, Nat.reduceEqDiff, Nat.reduceBEq, Nat.reduceLeDiff, Nat.reduceMul, ttL, tyL, ht]
  refine AppG.by hE 9000 rfl rfl (rowLen_prims _) (by simp; omega) ?_
  simp only [evX, reduceIte, reduceCtorEq, Nat.reduceLT, Nat.reduceAdd, Nat.reduceEqDiff, Nat.reduceBEq, Nat.reduceLeDiff, Nat.reduceMul, ttL, tyL, ht]
  rw [← List.map_append]
  (refine CallG.ok hE 9000 (hP ▸ ok_flowPass (a ++ b) c (by omega) (by omega) kab kc) rfl rfl ?_ <;> simp only [evX, reduceIte, reduceCtorEq, Nat.reduceLT, Nat.reduceAdd, Nat.reduceEqDiff, Nat.reduceBEq, Nat.reduceLeDiff, Nat.reduceMul, ttL, tyL, ht])
  (refine CallG.ok hE 9000 (hP ▸ ok_flowPass b c (by omega) (by omega) kb kc) rfl rfl ?_ <;> simp only [evX, reduceIte, reduceCtorEq, Nat.reduceLT, Nat.reduceAdd, Nat.reduceEqDiff, Nat.reduceBEq, Nat.reduceLeDiff, Nat.reduceMul, ttL, tyL, ht])
  (refine CallG.ok hE 9000 (hP ▸ ok_flowPass a (passLT b c).1 (by omega) (by omega) ka K1.1) rfl rfl ?_ <;> simp only [evX, reduceIte, reduceCtorEq, Nat.reduceLT, Nat.reduceAdd, Nat.reduceEqDiff, Nat.reduceBEq, Nat.reduceLeDiff, Nat.reduceMul, ttL, tyL, ht])
  (refine CallG.ok hE 9000 (hP ▸ ok_flowPass a (b ++ c) (by omega) (by omega) ka kbc) rfl rfl ?_ <;> simp only [evX, reduceIte, reduceCtorEq, Nat.reduceLT, Nat.reduceAdd, Nat.reduceEqDiff, Nat.reduceBEq, Nat.reduceLeDiff, Nat.reduceMul, ttL, tyL, ht])
  (refine CallG.ok hE 9000 (hP ▸ ok_flowPass a b (by omega) (by omega) ka kb) rfl rfl ?_ <;> simp only [evX, reduceIte, reduceCtorEq, Nat.reduceLT, Nat.reduceAdd, Nat.reduceEqDiff, Nat.reduceBEq, Nat.reduceLeDiff, Nat.reduceMul, ttL, tyL, ht])
  (refine CallG.ok hE 9000 (hP ▸ ok_flowPass (passLT a b).2.1 c (by omega) (by omega) K3.2 kc) rfl rfl ?_ <;> simp only [evX, reduceIte, reduceCtorEq, Nat.reduceLT, Nat.reduceAdd, Nat.reduceEqDiff, Nat.reduceBEq, Nat.reduceLeDiff, Nat.reduceMul, ttL, tyL, ht])
  have e1 := flow_left a b c
  have e2 := flow_right a b c
  cases h5 : (passLT b c).2.2 <;> cases h6 : (passLT a (passLT b c).1).2.2 <;> cases h7 : (passLT a b).2.2 <;> cases h8 : (passLT (passLT a b).2.1 c).2.2
  all_goals
    simp only [h5, h6, h7, h8, and_self, and_true, true_and, and_false, false_and, if_true, if_false, Bool.false_eq_true] at e1 e2
    simp only [e1, e2, h5, h6, h7, h8, evX, reduceIte, reduceCtorEq, Nat.reduceLT, Nat.reduceAdd, Nat.reduceEqDiff, Nat.reduceBEq, Nat.reduceLeDiff, Nat.reduceMul, ttL, tyL, ht, bne_self_eq_false, Bool.not_true, Bool.not_false]
    try
      (refine CallG.ok hE 9000 (hP ▸ ok_flowSame (passLT a (passLT b c).1).1 (passLT a (passLT b c).1).1 (by omega) (fun p hp => (K2.1 p hp).1)) rfl rfl ?_ <;> simp only [evX, reduceIte, reduceCtorEq, Nat.reduceLT, Nat.reduceAdd, Nat.reduceEqDiff, Nat.reduceBEq, Nat.reduceLeDiff, Nat.reduceMul, ttL, tyL, ht])
      simp only [all2_refl, evX, reduceIte, reduceCtorEq, Nat.reduceLT, Nat.reduceAdd, Nat.reduceEqDiff, Nat.reduceBEq, Nat.reduceLeDiff, Nat.reduceMul, ttL, tyL, ht]
      refine AppG.by hE 9000 rfl rfl (rowLen_prims _) (by simp; omega) ?_
      simp only [evX, reduceIte, reduceCtorEq, Nat.reduceLT, Nat.reduceAdd, Nat.reduceEqDiff, Nat.reduceBEq, Nat.reduceLeDiff, Nat.reduceMul, ttL, tyL, ht]
      refine AppG.by hE 9000 rfl rfl (rowLen_prims _) (by simp; omega) ?_
      simp only [evX, reduceIte, reduceCtorEq, Nat.reduceLT, Nat.reduceAdd, Nat.reduceEqDiff, Nat.reduceBEq, Nat.reduceLeDiff, Nat.reduceMul, ttL, tyL, ht]
      rw [← List.map_append]
      (refine CallG.ok hE 9000 (hP ▸ ok_flowSame ((passLT a (passLT b c).1).2.1 ++ (passLT b c).2.1) ((passLT a (passLT b c).1).2.1 ++ (passLT b c).2.1) (by rw [List.length_append]; omega) (fun p hp => by rcases List.mem_append.1 hp with h | h; exact (K2.2 p h).1; exact (K1.2 p h).1)) rfl rfl ?_ <;> simp only [evX, reduceIte, reduceCtorEq, Nat.reduceLT, Nat.reduceAdd, Nat.reduceEqDiff, Nat.reduceBEq, Nat.reduceLeDiff, Nat.reduceMul, ttL, tyL, ht])
      simp only [all2_refl, evX, reduceIte, reduceCtorEq, Nat.reduceLT, Nat.reduceAdd, Nat.reduceEqDiff, Nat.reduceBEq, Nat.reduceLeDiff, Nat.reduceMul, ttL, tyL, ht]
    try
      (refine CallG.ok hE 9000 (hP ▸ ok_flowSame (passLT (passLT a b).2.1 c).2.1 (passLT (passLT a b).2.1 c).2.1 (by omega) (fun p hp => (K4.2 p hp).1)) rfl rfl ?_ <;> simp only [evX, reduceIte, reduceCtorEq, Nat.reduceLT, Nat.reduceAdd, Nat.reduceEqDiff, Nat.reduceBEq, Nat.reduceLeDiff, Nat.reduceMul, ttL, tyL, ht])
      simp only [all2_refl, evX, reduceIte, reduceCtorEq, Nat.reduceLT, Nat.reduceAdd, Nat.reduceEqDiff, Nat.reduceBEq, Nat.reduceLeDiff, Nat.reduceMul, ttL, tyL, ht]
      refine AppG.by hE 9000 rfl rfl (rowLen_prims _) (by simp; omega) ?_
      simp only [evX, reduceIte, reduceCtorEq, Nat.reduceLT, Nat.reduceAdd, Nat.reduceEqDiff, Nat.reduceBEq, Nat.reduceLeDiff, Nat.reduceMul, ttL, tyL, ht]
      refine AppG.by hE 9000 rfl rfl (rowLen_prims _) (by simp; omega) ?_
      simp only [evX, reduceIte, reduceCtorEq, Nat.reduceLT, Nat.reduceAdd, Nat.reduceEqDiff, Nat.reduceBEq, Nat.reduceLeDiff, Nat.reduceMul, ttL, tyL, ht]
      rw [← List.map_append]
      (refine CallG.ok hE 9000 (hP ▸ ok_flowSame ((passLT a b).1 ++ (passLT (passLT a b).2.1 c).1) ((passLT a b).1 ++ (passLT (passLT a b).2.1 c).1) (by rw [List.length_append]; omega) (fun p hp => by rcases List.mem_append.1 hp with h | h; exact (K3.1 p h).1; exact (K4.1 p h).1)) rfl rfl ?_ <;> simp only [evX, reduceIte, reduceCtorEq, Nat.reduceLT, Nat.reduceAdd, Nat.reduceEqDiff, Nat.reduceBEq, Nat.reduceLeDiff, Nat.reduceMul, ttL, tyL, ht])
      simp only [all2_refl, evX, reduceIte, reduceCtorEq, Nat.reduceLT, Nat.reduceAdd, Nat.reduceEqDiff, Nat.reduceBEq, Nat.reduceLeDiff, Nat.reduceMul, ttL, tyL, ht]
    exact RetQ.bool (.inr rfl) rfl rfl
theorem law_FlowNone (a : List Prim) (ba : primsB a) (ra : ∀ p ∈ a, primR p) (b : List Prim) (bb : primsB b) (rb : ∀ p ∈ b, primR p) : Ok Try.prog 5 [primsA a, primsA b] (.v (boolA true)) := by
  have la := ba.1
  have lb := bb.1
  simp only [Big] at la lb
  (refine Ok.code hT hM (fn := Try.f5) rfl rfl rfl _ _ rfl rfl (Nat.le_of_ble_eq_true rfl) fun E hE hP ht h0 hrd => ?_; refine Go.run hE 9000 ?_; simp only [Try.f5, evX, reduceIte, reduceCtorEq, Nat.reduceLT, Nat.reduceAdd, Nat.reduceEqDiff, Nat.reduceBEq, Nat.reduceLeDiff, Nat.reduceMul, ttL, tyL, ht])
  (refine CallG.ok hE 9000 (hP ▸ ok_awake10) rfl rfl ?_ <;> simp only [evX, reduceIte, reduceCtorEq, Nat.reduceLT, Nat.reduceAdd, Nat.reduceEqDiff, Nat.reduceBEq, Nat.reduceLeDiff, Nat.reduceMul, ttL, tyL, ht])
  (refine CallG.ok hE 9000 (hP ▸ ok_Few a 20 (by omega) ba.2) rfl rfl ?_ <;> simp only [evX, reduceIte, reduceCtorEq, Nat.reduceLT, Nat.reduceAdd, Nat.reduceEqDiff, Nat.reduceBEq, Nat.reduceLeDiff, Nat.reduceMul, ttL, tyL, ht])
  (refine CallG.ok hE 9000 (hP ▸ ok_Few b 20 (by omega) bb.2) rfl rfl ?_ <;> simp only [evX, reduceIte, reduceCtorEq, Nat.reduceLT, Nat.reduceAdd, Nat.reduceEqDiff, Nat.reduceBEq, Nat.reduceLeDiff, Nat.reduceMul, ttL, tyL, ht])
  cases h1 : few a 20 <;> simp only [evX, reduceIte, reduceCtorEq, Nat.reduceLT, Nat.reduceAdd, Nat.reduceEqDiff, Nat.reduceBEq, Nat.reduceLeDiff, Nat.reduceMul, ttL, tyL, ht, Bool.not_false, Bool.not_true]
  · exact RetQ.bool (.inr rfl) rfl rfl
  cases h2 : few b 20 <;> simp only [evX, reduceIte, reduceCtorEq, Nat.reduceLT, Nat.reduceAdd, Nat.reduceEqDiff, Nat.reduceBEq, Nat.reduceLeDiff, Nat.reduceMul, ttL, tyL, ht, Bool.not_false, Bool.not_true]
  · exact RetQ.bool (.inr rfl) rfl rfl
  have ka := okPs ba ra
  have kb := okPs bb rb
  have e1 : passLT a [] = ([], a, true) := rfl
  have e2 : passLT [] b = (b, [], true) := passLT_of (passL_nil b)
  (refine CallG.ok hE 9000 (hP ▸ ok_flowPass a [] (by omega) (by simp) ka (by simp)) rfl rfl ?_ <;> simp only [evX, reduceIte, reduceCtorEq, Nat.reduceLT, Nat.reduceAdd, Nat.reduceEqDiff, Nat.reduceBEq, Nat.reduceLeDiff, Nat.reduceMul, ttL, tyL, ht])
  simp only [e1, evX, reduceIte, reduceCtorEq, Nat.reduceLT, Nat.reduceAdd, Nat.reduceEqDiff, Nat.reduceBEq, Nat.reduceLeDiff, Nat.reduceMul, ttL, tyL, ht]
  (refine CallG.ok hE 9000 (hP ▸ ok_flowPass [] b (by simp) (by omega) (by simp) kb) rfl rfl ?_ <;> simp only [evX, reduceIte, reduceCtorEq, Nat.reduceLT, Nat.reduceAdd, Nat.reduceEqDiff, Nat.reduceBEq, Nat.reduceLeDiff, Nat.reduceMul, ttL, tyL, ht])
  simp only [e2, evX, reduceIte, reduceCtorEq, Nat.reduceLT, Nat.reduceAdd, Nat.reduceEqDiff, Nat.reduceBEq, Nat.reduceLeDiff, Nat.reduceMul, ttL, tyL, ht]
  (refine CallG.ok hE 9000 (hP ▸ ok_flowPass a b (by omega) (by omega) ka kb) rfl rfl ?_ <;> simp only [evX, reduceIte, reduceCtorEq, Nat.reduceLT, Nat.reduceAdd, Nat.reduceEqDiff, Nat.reduceBEq, Nat.reduceLeDiff, Nat.reduceMul, ttL, tyL, ht])
  have c0 : (((0 : Nat) : Int) == 0) = true := rfl
  simp only [c0, evX, reduceIte, reduceCtorEq, Nat.reduceLT, Nat.reduceAdd, Nat.reduceEqDiff, Nat.reduceBEq, Nat.reduceLeDiff, Nat.reduceMul, ttL, tyL, ht]
  (refine CallG.ok hE 9000 (hP ▸ ok_flowSame a a (by omega) ba.2) rfl rfl ?_ <;> simp only [evX, reduceIte, reduceCtorEq, Nat.reduceLT, Nat.reduceAdd, Nat.reduceEqDiff, Nat.reduceBEq, Nat.reduceLeDiff, Nat.reduceMul, ttL, tyL, ht])
  simp only [all2_refl, evX, reduceIte, reduceCtorEq, Nat.reduceLT, Nat.reduceAdd, Nat.reduceEqDiff, Nat.reduceBEq, Nat.reduceLeDiff, Nat.reduceMul, ttL, tyL, ht]
  (refine CallG.ok hE 9000 (hP ▸ ok_flowSame b b (by omega) bb.2) rfl rfl ?_ <;> simp only [evX, reduceIte, reduceCtorEq, Nat.reduceLT, Nat.reduceAdd, Nat.reduceEqDiff, Nat.reduceBEq, Nat.reduceLeDiff, Nat.reduceMul, ttL, tyL, ht])
  simp only [all2_refl, c0, evX, reduceIte, reduceCtorEq, Nat.reduceLT, Nat.reduceAdd, Nat.reduceEqDiff, Nat.reduceBEq, Nat.reduceLeDiff, Nat.reduceMul, ttL, tyL, ht]
  cases hs : (passLT a b).2.2 <;> simp only [evX, reduceIte, reduceCtorEq, Nat.reduceLT, Nat.reduceAdd, Nat.reduceEqDiff, Nat.reduceBEq, Nat.reduceLeDiff, Nat.reduceMul, ttL, tyL, ht, Bool.not_false, Bool.not_true]
  · exact RetQ.bool (.inr rfl) rfl rfl
  · obtain ⟨l1, l2⟩ := passL_len (passLT_some hs)
    have e3 : (((passLT a b).1.length : Int) == (b.length : Int)) = true := by rw [l1]; simp
    have e4 : (((passLT a b).2.1.length : Int) == (a.length : Int)) = true := by rw [l2]; simp
    simp only [e3, e4, evX, reduceIte, reduceCtorEq, Nat.reduceLT, Nat.reduceAdd, Nat.reduceEqDiff, Nat.reduceBEq, Nat.reduceLeDiff, Nat.reduceMul, ttL, tyL, ht]
    exact RetQ.bool (.inr rfl) rfl rfl
end Go.Proofs.Ytfjlopdofjbfgaa
