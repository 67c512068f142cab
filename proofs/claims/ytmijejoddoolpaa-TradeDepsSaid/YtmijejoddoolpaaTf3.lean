/- The laws of named patches. -/
import Derived.Test.YtmijejoddoolpaaTf2
namespace Go.Proofs.Ytmijejoddoolpaa
open Go.Vam Go.Qm
set_option linter.unusedVariables false
set_option linter.unusedSimpArgs false
set_option maxRecDepth 8000
set_option maxHeartbeats 2000000

theorem ok_lightN (p : Named) (n : Int) (bp : namedB p) : Ok Try.prog 11 [namedA p, intA n] (.v (boolA (lightN p n))) := by
  have h2 := bp.2.1
  simp only [Big] at h2
  (refine Ok.code hT hM (fn := Try.f11) rfl rfl rfl _ _ rfl rfl (Nat.le_of_ble_eq_true rfl) fun E hE hP ht h0 hrd => ?_; refine Go.run hE 9000 ?_; simp only [Try.f11, evX, reduceIte, reduceCtorEq, Nat.reduceLT, Nat.reduceAdd, Nat.reduceEqDiff, Nat.reduceBEq, Nat.reduceLeDiff, Nat.reduceMul, ttL, tyL, ht])
  (refine CallG.ok hE 9000 (hP ▸ ok_Few p.l n (by omega) bp.2.2) rfl rfl ?_ <;> simp only [evX, reduceIte, reduceCtorEq, Nat.reduceLT, Nat.reduceAdd, Nat.reduceEqDiff, Nat.reduceBEq, Nat.reduceLeDiff, Nat.reduceMul, ttL, tyL, ht])
  repeat' ((first | refine SelF.byN (fun hb => ?_) (fun hb => ?_) | refine SelF.by (fun hb => ?_) (fun hb => ?_)) <;> simp only [hb, evX, reduceIte, reduceCtorEq, Nat.reduceLT, Nat.reduceAdd, Nat.reduceEqDiff, Nat.reduceBEq, Nat.reduceLeDiff, Nat.reduceMul, ttL, tyL, ht])
  all_goals exact RetQ.bool (.inr rfl) rfl (by unfold lightN; simp only [*, Bool.and_true, Bool.true_and, Bool.and_false, Bool.false_and, Bool.and_self])
theorem ok_fewN (l : List Named) (n : Int) (bl : namedsB l) : Ok Try.prog 18 [namedsA l, intA n] (.v (boolA (fewN l n))) := by
  have h1 := bl.1
  simp only [Big] at h1
  (refine Ok.code hT hM (fn := Try.f18) rfl rfl rfl _ _ rfl rfl (Nat.le_of_ble_eq_true rfl) fun E hE hP ht h0 hrd => ?_; refine Go.run hE 9000 ?_; simp only [Try.f18, evX, reduceIte, reduceCtorEq, Nat.reduceLT, Nat.reduceAdd, Nat.reduceEqDiff, Nat.reduceBEq, Nat.reduceLeDiff, Nat.reduceMul, ttL, tyL, ht])
  ((first | refine SelF.byN (fun hb => ?_) (fun hb => ?_) | refine SelF.by (fun hb => ?_) (fun hb => ?_)) <;> simp only [hb, evX, reduceIte, reduceCtorEq, Nat.reduceLT, Nat.reduceAdd, Nat.reduceEqDiff, Nat.reduceBEq, Nat.reduceLeDiff, Nat.reduceMul, ttL, tyL, ht])
  · exact RetQ.bool (.inr rfl) rfl (by simp_all [fewN]; omega)
  · have hn : (l.length : Int) ≤ n := by simp at hb; omega
    refine Loop.by hE (ι := {i : Nat // i ≤ l.length ∧ ((l.take i).all fun p => lightN p 10) = true}) (fun i => ⟨24, [(0, namedsA l), (5, intA i.1)], [], [], []⟩) (fun i => l.length - i.1) ⟨0, by simp⟩ 9000 ⟨[], Wk.of rfl (by simp) (by rw [h0]; simp [fixB]) (by simp [wkT, okA, wkP, cloE, Vam.look, sig, ]) (by simp [wkBs, setBx, nthB, wkBx, wkL, okA, wkP, cloE, sig, ]) (by simp) (by simp)⟩ (by simp [h0]) ?_
    rintro ⟨i, hi, hall⟩
    simp only [evX, reduceIte, reduceCtorEq, Nat.reduceLT, Nat.reduceAdd, Nat.reduceEqDiff, Nat.reduceBEq, Nat.reduceLeDiff, Nat.reduceMul, ttL, tyL, ht]
    ((first | refine SelF.byN (fun hb => ?_) (fun hb => ?_) | refine SelF.by (fun hb => ?_) (fun hb => ?_)) <;> simp only [hb, evX, reduceIte, reduceCtorEq, Nat.reduceLT, Nat.reduceAdd, Nat.reduceEqDiff, Nat.reduceBEq, Nat.reduceLeDiff, Nat.reduceMul, ttL, tyL, ht])
    · simp only [decide_eq_true_eq] at hb
      have hlt : i < l.length := by omega
      refine IdxR.nat hE 9000 hlt rfl ?_
      simp only [evX, reduceIte, reduceCtorEq, Nat.reduceLT, Nat.reduceAdd, Nat.reduceEqDiff, Nat.reduceBEq, Nat.reduceLeDiff, Nat.reduceMul, ttL, tyL, ht]
      (refine CallG.ok hE 9000 (hP ▸ ok_lightN l[i] 10 (bl.2 _ (List.getElem_mem hlt))) rfl rfl ?_ <;> simp only [evX, reduceIte, reduceCtorEq, Nat.reduceLT, Nat.reduceAdd, Nat.reduceEqDiff, Nat.reduceBEq, Nat.reduceLeDiff, Nat.reduceMul, ttL, tyL, ht])
      ((first | refine SelF.byN (fun hb => ?_) (fun hb => ?_) | refine SelF.by (fun hb => ?_) (fun hb => ?_)) <;> simp only [hb, evX, reduceIte, reduceCtorEq, Nat.reduceLT, Nat.reduceAdd, Nat.reduceEqDiff, Nat.reduceBEq, Nat.reduceLeDiff, Nat.reduceMul, ttL, tyL, ht])
      · exact RetQ.bool (.inr rfl) rfl (by rw [fewN, all_at (f := fun p => lightN p 10) hlt (by simpa using hb)]; simp)
      · refine ⟨⟨i + 1, by omega, by rw [all_take hlt, hall]; simpa using hb⟩, [], Wk.of rfl (by simp) (by rw [h0]; simp [fixB]) (by simp [wkT, okA, wkP, cloE, Vam.look, sig, wrapN i (by omega)]) (by simp [wkBs, setBx, nthB, wkBx, wkL, okA, wkP, cloE, sig, wrapN i (by omega)]) (by simp) (by simp), by simp only; omega⟩
    · exact RetQ.bool (.inr rfl) rfl (by rw [fewN, all_full hi (by simpa using hb) hall]; simp_all)
theorem allN_B {l : List Named} (bl : namedsB l) : ∀ q ∈ allN l, primB q := fun q hq => by
  obtain ⟨p, h1, h2⟩ := allN_mem hq
  exact (bl.2 p h1).2.2 q h2
theorem allN_R {l : List Named} (rl : ∀ p ∈ l, namedR p) : ∀ q ∈ allN l, primR q := fun q hq => by
  obtain ⟨p, h1, h2⟩ := allN_mem hq
  exact (rl p h1).2.2 q h2
theorem ok_patchApply (t : List File) (l : List Named) {a b : Nat} (nt : treeN a b t) (bl : namedsB l) (rl : ∀ p ∈ l, namedR p) (hn : (allN l).length ≤ 200000) (ha : (a + 200000) * 40 ≤ Big) (hb' : (b + 200 * 200000) * 16 ≤ Big) : Ok Try.prog 24 [treeA t, namedsA l] (.v (.tup [treeA (runL t (allN l)).1, intA (runL t (allN l)).2])) := by
  (refine Ok.code hT hM (fn := Try.f24) rfl rfl rfl _ _ rfl rfl (Nat.le_of_ble_eq_true rfl) fun E hE hP ht h0 hrd => ?_; refine Go.run hE 9000 ?_; simp only [Try.f24, evX, reduceIte, reduceCtorEq, Nat.reduceLT, Nat.reduceAdd, Nat.reduceEqDiff, Nat.reduceBEq, Nat.reduceLeDiff, Nat.reduceMul, ttL, tyL, ht])
  (refine CallG.ok hE 9000 (hP ▸ ok_All l bl (by omega)) rfl rfl ?_ <;> simp only [evX, reduceIte, reduceCtorEq, Nat.reduceLT, Nat.reduceAdd, Nat.reduceEqDiff, Nat.reduceBEq, Nat.reduceLeDiff, Nat.reduceMul, ttL, tyL, ht])
  (refine CallG.ok hE 9000 (hP ▸ ok_flowApply t (allN l) nt (by omega) (allN_B bl) (allN_R rl) (Nat.le_trans (Nat.mul_le_mul_right _ (by omega)) ha) (Nat.le_trans (Nat.mul_le_mul_right _ (by omega)) hb')) rfl rfl ?_ <;> simp only [evX, reduceIte, reduceCtorEq, Nat.reduceLT, Nat.reduceAdd, Nat.reduceEqDiff, Nat.reduceBEq, Nat.reduceLeDiff, Nat.reduceMul, ttL, tyL, ht])
  exact RetQ.two (.inr rfl) rfl rfl rfl rfl
def aw14 : Named := ⟨⟨0, 1⟩, [], ⟨#[]⟩, [⟨0, ⟨#[97]⟩, ⟨#[]⟩, hunkZ⟩]⟩
theorem aw14a : runL [] (allN [aw14]) = ([⟨⟨#[97]⟩, []⟩], 0) := by kernel_rfl
theorem aw14b : mayN aw14 = true := by kernel_rfl
theorem aw14c : findN [aw14] ⟨0, 1⟩ = 0 := by kernel_rfl
theorem aw14_B : namedB aw14 := ⟨by simp [aw14], by simp [aw14, Big], by simp [aw14, hunkZ]⟩
theorem aw14_R : namedR aw14 := ⟨⟨by simp [aw14, i64], by simp [aw14, i64]⟩, by simp [aw14], fun q hq => by
  simp only [aw14, List.mem_singleton] at hq
  subst hq
  exact ⟨by simp [i64], by decide, by decide, by simp [hunkZ, i64], by simp [hunkZ, strsZ], by simp [hunkZ, strsZ]⟩⟩
theorem ok_awake14 : Ok Try.prog 10 [] (.v (boolA true)) := by
  have b1 : namedsB [aw14] := ⟨by simp [Big], by simpa using aw14_B⟩
  have r1 : ∀ p ∈ [aw14], namedR p := by simpa using aw14_R
  (refine Ok.code hT hM (fn := Try.f10) rfl rfl rfl _ _ rfl rfl (Nat.le_of_ble_eq_true rfl) fun E hE hP ht h0 hrd => ?_; refine Go.run hE 9000 ?_; simp only [Try.f10, evX, reduceIte, reduceCtorEq, Nat.reduceLT, Nat.reduceAdd, Nat.reduceEqDiff, Nat.reduceBEq, Nat.reduceLeDiff, Nat.reduceMul, ttL, tyL, ht])
  refine HardOp.frz hE 9000 6 rfl rfl rfl ?_
  simp only [evX, reduceIte, reduceCtorEq, Nat.reduceLT, Nat.reduceAdd, Nat.reduceEqDiff, Nat.reduceBEq, Nat.reduceLeDiff, Nat.reduceMul, ttL, tyL, ht]
  (refine StG.by hE ht 9000 rfl ?_ <;> simp only [evX, reduceIte, reduceCtorEq, Nat.reduceLT, Nat.reduceAdd, Nat.reduceEqDiff, Nat.reduceBEq, Nat.reduceLeDiff, Nat.reduceMul, ttL, tyL, ht])
  (refine CallG.ok hE 9000 (hP ▸ ok_patchApply [] [aw14] (a := 0) (b := 0) ⟨by simp, by simp⟩ b1 r1 (by simp [allN, aw14]) (by decide) (by decide)) rfl rfl ?_ <;> simp only [evX, reduceIte, reduceCtorEq, Nat.reduceLT, Nat.reduceAdd, Nat.reduceEqDiff, Nat.reduceBEq, Nat.reduceLeDiff, Nat.reduceMul, ttL, tyL, ht])
  simp only [aw14a, evX, reduceIte, reduceCtorEq, Nat.reduceLT, Nat.reduceAdd, Nat.reduceEqDiff, Nat.reduceBEq, Nat.reduceLeDiff, Nat.reduceMul, ttL, tyL, ht]
  (refine CallG.ok hE 9000 (hP ▸ ok_patchMay aw14 aw14_B aw14_R) rfl rfl ?_ <;> simp only [evX, reduceIte, reduceCtorEq, Nat.reduceLT, Nat.reduceAdd, Nat.reduceEqDiff, Nat.reduceBEq, Nat.reduceLeDiff, Nat.reduceMul, ttL, tyL, ht])
  simp only [aw14b, evX, reduceIte, reduceCtorEq, Nat.reduceLT, Nat.reduceAdd, Nat.reduceEqDiff, Nat.reduceBEq, Nat.reduceLeDiff, Nat.reduceMul, ttL, tyL, ht, Int.reduceBEq]
  have c1 : ((([⟨⟨#[97]⟩, []⟩] : List File).length : Int) == 1) = true := rfl
  have c2 : (((1 : Nat) : Int) == 1) = true := rfl
  simp only [c1, c2, evX, reduceIte, reduceCtorEq, Nat.reduceLT, Nat.reduceAdd, Nat.reduceEqDiff, Nat.reduceBEq, Nat.reduceLeDiff, Nat.reduceMul, ttL, tyL, ht]
  (refine CallG.ok hE 9000 (hP ▸ ok_Find [aw14] ⟨0, 1⟩ (by simp)) rfl rfl ?_ <;> simp only [evX, reduceIte, reduceCtorEq, Nat.reduceLT, Nat.reduceAdd, Nat.reduceEqDiff, Nat.reduceBEq, Nat.reduceLeDiff, Nat.reduceMul, ttL, tyL, ht])
  simp only [aw14c, evX, reduceIte, reduceCtorEq, Nat.reduceLT, Nat.reduceAdd, Nat.reduceEqDiff, Nat.reduceBEq, Nat.reduceLeDiff, Nat.reduceMul, ttL, tyL, ht, Int.reduceBEq]
  (refine CallG.ok hE 9000 (hP ▸ ok_patchSame aw14 aw14 aw14_B) rfl rfl ?_ <;> simp only [evX, reduceIte, reduceCtorEq, Nat.reduceLT, Nat.reduceAdd, Nat.reduceEqDiff, Nat.reduceBEq, Nat.reduceLeDiff, Nat.reduceMul, ttL, tyL, ht])
  simp only [sameN_refl, evX, reduceIte, reduceCtorEq, Nat.reduceLT, Nat.reduceAdd, Nat.reduceEqDiff, Nat.reduceBEq, Nat.reduceLeDiff, Nat.reduceMul, ttL, tyL, ht]
  (refine CallG.ok hE 9000 (hP ▸ ok_patchLess ⟨0, 1⟩ ⟨0, 2⟩) rfl rfl ?_ <;> simp only [evX, reduceIte, reduceCtorEq, Nat.reduceLT, Nat.reduceAdd, Nat.reduceEqDiff, Nat.reduceBEq, Nat.reduceLeDiff, Nat.reduceMul, ttL, tyL, ht])
  exact RetQ.bool (.inr rfl) rfl (by decide)
theorem law_PatchOrder (a : Qm.Id) (ra : idR a) (b : Qm.Id) (rb : idR b) (c : Qm.Id) (rc : idR c) : Ok Try.prog 4 [idA a, idA b, idA c] (.v (boolA true)) := by
  (refine Ok.code hT hM (fn := Try.f4) rfl rfl rfl _ _ rfl rfl (Nat.le_of_ble_eq_true rfl) fun E hE hP ht h0 hrd => ?_; refine Go.run hE 9000 ?_; simp only [Try.f4, evX, reduceIte, reduceCtorEq, Nat.reduceLT, Nat.reduceAdd, Nat.reduceEqDiff, Nat.reduceBEq, Nat.reduceLeDiff, Nat.reduceMul, ttL, tyL, ht])
  (refine CallG.ok hE 9000 (hP ▸ ok_awake14) rfl rfl ?_ <;> simp only [evX, reduceIte, reduceCtorEq, Nat.reduceLT, Nat.reduceAdd, Nat.reduceEqDiff, Nat.reduceBEq, Nat.reduceLeDiff, Nat.reduceMul, ttL, tyL, ht])
  (refine CallG.ok hE 9000 (hP ▸ ok_patchLess a b) rfl rfl ?_ <;> simp only [evX, reduceIte, reduceCtorEq, Nat.reduceLT, Nat.reduceAdd, Nat.reduceEqDiff, Nat.reduceBEq, Nat.reduceLeDiff, Nat.reduceMul, ttL, tyL, ht])
  (refine CallG.ok hE 9000 (hP ▸ ok_patchLess b a) rfl rfl ?_ <;> simp only [evX, reduceIte, reduceCtorEq, Nat.reduceLT, Nat.reduceAdd, Nat.reduceEqDiff, Nat.reduceBEq, Nat.reduceLeDiff, Nat.reduceMul, ttL, tyL, ht])
  have k2 := idLess_tri a b
  cases h1 : idLess a b
  · cases h2 : idLess b a
    · rw [h1, h2] at k2
      have k3 : (a.who == b.who && a.no == b.no) = true := (by cases h : idEq a b <;> simp_all : idEq a b = true)
      simp only [h1, h2, evX, reduceIte, reduceCtorEq, Nat.reduceLT, Nat.reduceAdd, Nat.reduceEqDiff, Nat.reduceBEq, Nat.reduceLeDiff, Nat.reduceMul, ttL, tyL, ht, Bool.not_false, Bool.not_true]
      (refine HardOp.eqI hE 9000 rfl (hP ▸ eqT) rfl ?_ <;> simp only [evX, reduceIte, reduceCtorEq, Nat.reduceLT, Nat.reduceAdd, Nat.reduceEqDiff, Nat.reduceBEq, Nat.reduceLeDiff, Nat.reduceMul, ttL, tyL, ht])
      simp only [k3, evX, reduceIte, reduceCtorEq, Nat.reduceLT, Nat.reduceAdd, Nat.reduceEqDiff, Nat.reduceBEq, Nat.reduceLeDiff, Nat.reduceMul, ttL, tyL, ht, Bool.not_false, Bool.not_true, beq_self_eq_true]
      exact RetQ.bool (.inr rfl) rfl rfl
    · rw [h1, h2] at k2
      have k3 : (a.who == b.who && a.no == b.no) = false := (by cases h : idEq a b <;> simp_all : idEq a b = false)
      simp only [h1, h2, evX, reduceIte, reduceCtorEq, Nat.reduceLT, Nat.reduceAdd, Nat.reduceEqDiff, Nat.reduceBEq, Nat.reduceLeDiff, Nat.reduceMul, ttL, tyL, ht, Bool.not_false, Bool.not_true]
      (refine HardOp.eqI hE 9000 rfl (hP ▸ eqT) rfl ?_ <;> simp only [evX, reduceIte, reduceCtorEq, Nat.reduceLT, Nat.reduceAdd, Nat.reduceEqDiff, Nat.reduceBEq, Nat.reduceLeDiff, Nat.reduceMul, ttL, tyL, ht])
      simp only [k3, evX, reduceIte, reduceCtorEq, Nat.reduceLT, Nat.reduceAdd, Nat.reduceEqDiff, Nat.reduceBEq, Nat.reduceLeDiff, Nat.reduceMul, ttL, tyL, ht, Bool.not_false, Bool.not_true, beq_self_eq_true]
      exact RetQ.bool (.inr rfl) rfl rfl
  · have h2 := idLess_asym h1
    rw [h1, h2] at k2
    have k3 : (a.who == b.who && a.no == b.no) = false := (by cases h : idEq a b <;> simp_all : idEq a b = false)
    simp only [h1, h2, evX, reduceIte, reduceCtorEq, Nat.reduceLT, Nat.reduceAdd, Nat.reduceEqDiff, Nat.reduceBEq, Nat.reduceLeDiff, Nat.reduceMul, ttL, tyL, ht, Bool.not_false, Bool.not_true]
    (refine HardOp.eqI hE 9000 rfl (hP ▸ eqT) rfl ?_ <;> simp only [evX, reduceIte, reduceCtorEq, Nat.reduceLT, Nat.reduceAdd, Nat.reduceEqDiff, Nat.reduceBEq, Nat.reduceLeDiff, Nat.reduceMul, ttL, tyL, ht])
    simp only [k3, evX, reduceIte, reduceCtorEq, Nat.reduceLT, Nat.reduceAdd, Nat.reduceEqDiff, Nat.reduceBEq, Nat.reduceLeDiff, Nat.reduceMul, ttL, tyL, ht, Bool.not_false, Bool.not_true, beq_self_eq_true]
    (refine CallG.ok hE 9000 (hP ▸ ok_patchLess b c) rfl rfl ?_ <;> simp only [evX, reduceIte, reduceCtorEq, Nat.reduceLT, Nat.reduceAdd, Nat.reduceEqDiff, Nat.reduceBEq, Nat.reduceLeDiff, Nat.reduceMul, ttL, tyL, ht])
    cases h3 : idLess b c <;> simp only [evX, reduceIte, reduceCtorEq, Nat.reduceLT, Nat.reduceAdd, Nat.reduceEqDiff, Nat.reduceBEq, Nat.reduceLeDiff, Nat.reduceMul, ttL, tyL, ht, Bool.not_false, Bool.not_true]
    · exact RetQ.bool (.inr rfl) rfl rfl
    · (refine CallG.ok hE 9000 (hP ▸ ok_patchLess a c) rfl rfl ?_ <;> simp only [evX, reduceIte, reduceCtorEq, Nat.reduceLT, Nat.reduceAdd, Nat.reduceEqDiff, Nat.reduceBEq, Nat.reduceLeDiff, Nat.reduceMul, ttL, tyL, ht])
      exact RetQ.bool (.inr rfl) rfl (idLess_trans h1 h3)
theorem light_text {p : Named} {n : Int} (h : lightN p n = true) : strZ p.text := by
  simp only [lightN, Bool.and_eq_true, decide_eq_true_eq] at h
  have := h.2
  show p.text.size ≤ Big
  simp only [Big]
  omega
theorem law_PatchTells (p : Named) (bp : namedB p) (rp : namedR p) (q : Named) (bq : namedB q) (rq : namedR q) : Ok Try.prog 3 [namedA p, namedA q] (.v (boolA true)) := by
  (refine Ok.code hT hM (fn := Try.f3) rfl rfl rfl _ _ rfl rfl (Nat.le_of_ble_eq_true rfl) fun E hE hP ht h0 hrd => ?_; refine Go.run hE 9000 ?_; simp only [Try.f3, evX, reduceIte, reduceCtorEq, Nat.reduceLT, Nat.reduceAdd, Nat.reduceEqDiff, Nat.reduceBEq, Nat.reduceLeDiff, Nat.reduceMul, ttL, tyL, ht])
  (refine CallG.ok hE 9000 (hP ▸ ok_awake14) rfl rfl ?_ <;> simp only [evX, reduceIte, reduceCtorEq, Nat.reduceLT, Nat.reduceAdd, Nat.reduceEqDiff, Nat.reduceBEq, Nat.reduceLeDiff, Nat.reduceMul, ttL, tyL, ht])
  (refine CallG.ok hE 9000 (hP ▸ ok_lightN p 60 bp) rfl rfl ?_ <;> simp only [evX, reduceIte, reduceCtorEq, Nat.reduceLT, Nat.reduceAdd, Nat.reduceEqDiff, Nat.reduceBEq, Nat.reduceLeDiff, Nat.reduceMul, ttL, tyL, ht])
  (refine CallG.ok hE 9000 (hP ▸ ok_lightN q 60 bq) rfl rfl ?_ <;> simp only [evX, reduceIte, reduceCtorEq, Nat.reduceLT, Nat.reduceAdd, Nat.reduceEqDiff, Nat.reduceBEq, Nat.reduceLeDiff, Nat.reduceMul, ttL, tyL, ht])
  cases h1 : lightN p 60 <;> simp only [evX, reduceIte, reduceCtorEq, Nat.reduceLT, Nat.reduceAdd, Nat.reduceEqDiff, Nat.reduceBEq, Nat.reduceLeDiff, Nat.reduceMul, ttL, tyL, ht, Bool.not_false, Bool.not_true]
  · exact RetQ.bool (.inr rfl) rfl rfl
  cases h2 : lightN q 60 <;> simp only [evX, reduceIte, reduceCtorEq, Nat.reduceLT, Nat.reduceAdd, Nat.reduceEqDiff, Nat.reduceBEq, Nat.reduceLeDiff, Nat.reduceMul, ttL, tyL, ht, Bool.not_false, Bool.not_true]
  · exact RetQ.bool (.inr rfl) rfl rfl
  (refine CallG.ok hE 9000 (hP ▸ ok_ref14May p bp rp (light_text h1)) rfl rfl ?_ <;> simp only [evX, reduceIte, reduceCtorEq, Nat.reduceLT, Nat.reduceAdd, Nat.reduceEqDiff, Nat.reduceBEq, Nat.reduceLeDiff, Nat.reduceMul, ttL, tyL, ht])
  (refine CallG.ok hE 9000 (hP ▸ ok_ref14Same p q bp) rfl rfl ?_ <;> simp only [evX, reduceIte, reduceCtorEq, Nat.reduceLT, Nat.reduceAdd, Nat.reduceEqDiff, Nat.reduceBEq, Nat.reduceLeDiff, Nat.reduceMul, ttL, tyL, ht])
  (refine CallG.ok hE 9000 (hP ▸ ok_refLess p.id q.id) rfl rfl ?_ <;> simp only [evX, reduceIte, reduceCtorEq, Nat.reduceLT, Nat.reduceAdd, Nat.reduceEqDiff, Nat.reduceBEq, Nat.reduceLeDiff, Nat.reduceMul, ttL, tyL, ht])
  (refine CallG.ok hE 9000 (hP ▸ ok_patchMay p bp rp) rfl rfl ?_ <;> simp only [evX, reduceIte, reduceCtorEq, Nat.reduceLT, Nat.reduceAdd, Nat.reduceEqDiff, Nat.reduceBEq, Nat.reduceLeDiff, Nat.reduceMul, ttL, tyL, ht])
  try simp only [beq_self_eq_true, evX, reduceIte, reduceCtorEq, Nat.reduceLT, Nat.reduceAdd, Nat.reduceEqDiff, Nat.reduceBEq, Nat.reduceLeDiff, Nat.reduceMul, ttL, tyL, ht]
  (refine CallG.ok hE 9000 (hP ▸ ok_patchSame p q bp) rfl rfl ?_ <;> simp only [evX, reduceIte, reduceCtorEq, Nat.reduceLT, Nat.reduceAdd, Nat.reduceEqDiff, Nat.reduceBEq, Nat.reduceLeDiff, Nat.reduceMul, ttL, tyL, ht])
  try simp only [beq_self_eq_true, evX, reduceIte, reduceCtorEq, Nat.reduceLT, Nat.reduceAdd, Nat.reduceEqDiff, Nat.reduceBEq, Nat.reduceLeDiff, Nat.reduceMul, ttL, tyL, ht]
  (refine CallG.ok hE 9000 (hP ▸ ok_patchLess p.id q.id) rfl rfl ?_ <;> simp only [evX, reduceIte, reduceCtorEq, Nat.reduceLT, Nat.reduceAdd, Nat.reduceEqDiff, Nat.reduceBEq, Nat.reduceLeDiff, Nat.reduceMul, ttL, tyL, ht])
  exact RetQ.bool (.inr rfl) rfl (by simp)
theorem law_PatchFind (a : List Named) (ba : namedsB a) (ra : ∀ p ∈ a, namedR p) (b : List Named) (bb : namedsB b) (rb : ∀ p ∈ b, namedR p) (x : Qm.Id) (rx : idR x) : Ok Try.prog 6 [namedsA a, namedsA b, idA x] (.v (boolA true)) := by
  (refine Ok.code hT hM (fn := Try.f6) rfl rfl rfl _ _ rfl rfl (Nat.le_of_ble_eq_true rfl) fun E hE hP ht h0 hrd => ?_; refine Go.run hE 9000 ?_; simp only [Try.f6, evX, reduceIte, reduceCtorEq, Nat.reduceLT, Nat.reduceAdd, Nat.reduceEqDiff, Nat.reduceBEq, Nat.reduceLeDiff, Nat.reduceMul, ttL, tyL, ht])
  (refine CallG.ok hE 9000 (hP ▸ ok_awake14) rfl rfl ?_ <;> simp only [evX, reduceIte, reduceCtorEq, Nat.reduceLT, Nat.reduceAdd, Nat.reduceEqDiff, Nat.reduceBEq, Nat.reduceLeDiff, Nat.reduceMul, ttL, tyL, ht])
  (refine CallG.ok hE 9000 (hP ▸ ok_fewN a 12 ba) rfl rfl ?_ <;> simp only [evX, reduceIte, reduceCtorEq, Nat.reduceLT, Nat.reduceAdd, Nat.reduceEqDiff, Nat.reduceBEq, Nat.reduceLeDiff, Nat.reduceMul, ttL, tyL, ht])
  (refine CallG.ok hE 9000 (hP ▸ ok_fewN b 12 bb) rfl rfl ?_ <;> simp only [evX, reduceIte, reduceCtorEq, Nat.reduceLT, Nat.reduceAdd, Nat.reduceEqDiff, Nat.reduceBEq, Nat.reduceLeDiff, Nat.reduceMul, ttL, tyL, ht])
  cases h1 : fewN a 12 <;> simp only [evX, reduceIte, reduceCtorEq, Nat.reduceLT, Nat.reduceAdd, Nat.reduceEqDiff, Nat.reduceBEq, Nat.reduceLeDiff, Nat.reduceMul, ttL, tyL, ht, Bool.not_false, Bool.not_true]
  · exact RetQ.bool (.inr rfl) rfl rfl
  cases h2 : fewN b 12 <;> simp only [evX, reduceIte, reduceCtorEq, Nat.reduceLT, Nat.reduceAdd, Nat.reduceEqDiff, Nat.reduceBEq, Nat.reduceLeDiff, Nat.reduceMul, ttL, tyL, ht, Bool.not_false, Bool.not_true]
  · exact RetQ.bool (.inr rfl) rfl rfl
  have la := fewN_len h1
  have lb := fewN_len h2
  have lla := fewN_all h1
  have llb := fewN_all h2
  have bab : namedsB (a ++ b) := ⟨by simp only [List.length_append, Big]; omega, fun p hp => by rcases List.mem_append.1 hp with h | h; exact ba.2 p h; exact bb.2 p h⟩
  have babl : (a ++ b).length < 9223372036854775807 := by simp only [List.length_append]; omega
  refine AppG.by hE 9000 rfl rfl (by simp [rowLen]) (by simp; omega) ?_
  simp only [evX, reduceIte, reduceCtorEq, Nat.reduceLT, Nat.reduceAdd, Nat.reduceEqDiff, Nat.reduceBEq, Nat.reduceLeDiff, Nat.reduceMul, ttL, tyL, ht]
  refine AppG.by hE 9000 rfl rfl (by simp [rowLen]) (by simp; omega) ?_
  simp only [evX, reduceIte, reduceCtorEq, Nat.reduceLT, Nat.reduceAdd, Nat.reduceEqDiff, Nat.reduceBEq, Nat.reduceLeDiff, Nat.reduceMul, ttL, tyL, ht]
  rw [← List.map_append]
  (refine CallG.ok hE 9000 (hP ▸ ok_Find (a ++ b) x babl) rfl rfl ?_ <;> simp only [evX, reduceIte, reduceCtorEq, Nat.reduceLT, Nat.reduceAdd, Nat.reduceEqDiff, Nat.reduceBEq, Nat.reduceLeDiff, Nat.reduceMul, ttL, tyL, ht])
  (refine CallG.ok hE 9000 (hP ▸ ok_Find a x (by omega)) rfl rfl ?_ <;> simp only [evX, reduceIte, reduceCtorEq, Nat.reduceLT, Nat.reduceAdd, Nat.reduceEqDiff, Nat.reduceBEq, Nat.reduceLeDiff, Nat.reduceMul, ttL, tyL, ht])
  (refine CallG.ok hE 9000 (hP ▸ ok_Find b x (by omega)) rfl rfl ?_ <;> simp only [evX, reduceIte, reduceCtorEq, Nat.reduceLT, Nat.reduceAdd, Nat.reduceEqDiff, Nat.reduceBEq, Nat.reduceLeDiff, Nat.reduceMul, ttL, tyL, ht])
  have hfab := findN_append a b x
  have main : ∀ (F1 F2 F3 : Int), F1 = (if F2 ≥ 0 then F2 else if F3 ≥ 0 then (a.length : Int) + F3 else -1) → F3 ≤ b.length → (F2 ≥ 0 ∧ F1 = F2) ∨ (F2 < 0 ∧ F3 ≥ 0 ∧ F1 = IntKind.i64.wrap ((a.length : Int) + F3)) ∨ (F2 < 0 ∧ F3 < 0 ∧ F1 = -1) := fun F1 F2 F3 h hle => by
    rw [IntKind.wrap_i64]
    split at h
    · exact .inl ⟨by assumption, h⟩
    · split at h
      · exact .inr (.inl ⟨by omega, by assumption, by omega⟩)
      · exact .inr (.inr ⟨by omega, by omega, h⟩)
  have hF3 : findN b x ≤ b.length := by
    unfold findN idxI
    split
    · have := List.findIdx_le_length (xs := b) (p := fun p => idEq p.id x)
      omega
    · omega
  have m := main _ _ _ hfab hF3
  generalize findN (a ++ b) x = F1 at m
  generalize findN a x = F2 at m
  generalize findN b x = F3 at m
  rcases m with ⟨m1, m2⟩ | ⟨m1, m2, m3⟩ | ⟨m1, m2, m3⟩
  · have e1 : decide (F2 ≥ 0) = true := by simpa using m1
    have e2 : decide (F2 < 0) = false := by simp; omega
    have e3 : (F1 != F2) = false := by simp [m2]
    simp only [e1, e2, e3, evX, reduceIte, reduceCtorEq, Nat.reduceLT, Nat.reduceAdd, Nat.reduceEqDiff, Nat.reduceBEq, Nat.reduceLeDiff, Nat.reduceMul, ttL, tyL, ht]
    (refine CallG.ok hE 9000 (hP ▸ ok_All (a ++ b) bab (by rw [allN_append, List.length_append]; omega)) rfl rfl ?_ <;> simp only [evX, reduceIte, reduceCtorEq, Nat.reduceLT, Nat.reduceAdd, Nat.reduceEqDiff, Nat.reduceBEq, Nat.reduceLeDiff, Nat.reduceMul, ttL, tyL, ht])
    (refine CallG.ok hE 9000 (hP ▸ ok_All a ba (by omega)) rfl rfl ?_ <;> simp only [evX, reduceIte, reduceCtorEq, Nat.reduceLT, Nat.reduceAdd, Nat.reduceEqDiff, Nat.reduceBEq, Nat.reduceLeDiff, Nat.reduceMul, ttL, tyL, ht])
    refine AppG.by hE 9000 rfl rfl (rowLen_prims _) (by simp; omega) ?_
    simp only [evX, reduceIte, reduceCtorEq, Nat.reduceLT, Nat.reduceAdd, Nat.reduceEqDiff, Nat.reduceBEq, Nat.reduceLeDiff, Nat.reduceMul, ttL, tyL, ht]
    (refine CallG.ok hE 9000 (hP ▸ ok_All b bb (by omega)) rfl rfl ?_ <;> simp only [evX, reduceIte, reduceCtorEq, Nat.reduceLT, Nat.reduceAdd, Nat.reduceEqDiff, Nat.reduceBEq, Nat.reduceLeDiff, Nat.reduceMul, ttL, tyL, ht])
    refine AppG.by hE 9000 rfl rfl (rowLen_prims _) (by simp; omega) ?_
    simp only [evX, reduceIte, reduceCtorEq, Nat.reduceLT, Nat.reduceAdd, Nat.reduceEqDiff, Nat.reduceBEq, Nat.reduceLeDiff, Nat.reduceMul, ttL, tyL, ht]
    rw [allN_append, ← List.map_append]
    (refine CallG.ok hE 9000 (hP ▸ ok_flowSame (allN a ++ allN b) (allN a ++ allN b) (by rw [List.length_append]; omega) (fun p hp => by rcases List.mem_append.1 hp with h | h; exact allN_B ba p h; exact allN_B bb p h)) rfl rfl ?_ <;> simp only [evX, reduceIte, reduceCtorEq, Nat.reduceLT, Nat.reduceAdd, Nat.reduceEqDiff, Nat.reduceBEq, Nat.reduceLeDiff, Nat.reduceMul, ttL, tyL, ht])
    exact RetQ.bool (.inr rfl) rfl (all2_refl _)
  · have e1 : decide (F2 ≥ 0) = false := by simp; omega
    have e2 : decide (F2 < 0) = true := by simpa using m1
    have e3 : decide (F3 ≥ 0) = true := by simpa using m2
    have e4 : decide (F3 < 0) = false := by simp; omega
    have e5 : (F1 != IntKind.i64.wrap ((a.length : Int) + F3)) = false := by simp [m3]
    simp only [e1, e2, e3, e4, e5, evX, reduceIte, reduceCtorEq, Nat.reduceLT, Nat.reduceAdd, Nat.reduceEqDiff, Nat.reduceBEq, Nat.reduceLeDiff, Nat.reduceMul, ttL, tyL, ht]
    (refine CallG.ok hE 9000 (hP ▸ ok_All (a ++ b) bab (by rw [allN_append, List.length_append]; omega)) rfl rfl ?_ <;> simp only [evX, reduceIte, reduceCtorEq, Nat.reduceLT, Nat.reduceAdd, Nat.reduceEqDiff, Nat.reduceBEq, Nat.reduceLeDiff, Nat.reduceMul, ttL, tyL, ht])
    (refine CallG.ok hE 9000 (hP ▸ ok_All a ba (by omega)) rfl rfl ?_ <;> simp only [evX, reduceIte, reduceCtorEq, Nat.reduceLT, Nat.reduceAdd, Nat.reduceEqDiff, Nat.reduceBEq, Nat.reduceLeDiff, Nat.reduceMul, ttL, tyL, ht])
    refine AppG.by hE 9000 rfl rfl (rowLen_prims _) (by simp; omega) ?_
    simp only [evX, reduceIte, reduceCtorEq, Nat.reduceLT, Nat.reduceAdd, Nat.reduceEqDiff, Nat.reduceBEq, Nat.reduceLeDiff, Nat.reduceMul, ttL, tyL, ht]
    (refine CallG.ok hE 9000 (hP ▸ ok_All b bb (by omega)) rfl rfl ?_ <;> simp only [evX, reduceIte, reduceCtorEq, Nat.reduceLT, Nat.reduceAdd, Nat.reduceEqDiff, Nat.reduceBEq, Nat.reduceLeDiff, Nat.reduceMul, ttL, tyL, ht])
    refine AppG.by hE 9000 rfl rfl (rowLen_prims _) (by simp; omega) ?_
    simp only [evX, reduceIte, reduceCtorEq, Nat.reduceLT, Nat.reduceAdd, Nat.reduceEqDiff, Nat.reduceBEq, Nat.reduceLeDiff, Nat.reduceMul, ttL, tyL, ht]
    rw [allN_append, ← List.map_append]
    (refine CallG.ok hE 9000 (hP ▸ ok_flowSame (allN a ++ allN b) (allN a ++ allN b) (by rw [List.length_append]; omega) (fun p hp => by rcases List.mem_append.1 hp with h | h; exact allN_B ba p h; exact allN_B bb p h)) rfl rfl ?_ <;> simp only [evX, reduceIte, reduceCtorEq, Nat.reduceLT, Nat.reduceAdd, Nat.reduceEqDiff, Nat.reduceBEq, Nat.reduceLeDiff, Nat.reduceMul, ttL, tyL, ht])
    exact RetQ.bool (.inr rfl) rfl (all2_refl _)
  · have e1 : decide (F2 ≥ 0) = false := by simp; omega
    have e2 : decide (F2 < 0) = true := by simpa using m1
    have e3 : decide (F3 ≥ 0) = false := by simp; omega
    have e4 : decide (F3 < 0) = true := by simpa using m2
    have e5 : (F1 != -1) = false := by simp [m3]
    simp only [e1, e2, e3, e4, e5, evX, reduceIte, reduceCtorEq, Nat.reduceLT, Nat.reduceAdd, Nat.reduceEqDiff, Nat.reduceBEq, Nat.reduceLeDiff, Nat.reduceMul, ttL, tyL, ht]
    (refine CallG.ok hE 9000 (hP ▸ ok_All (a ++ b) bab (by rw [allN_append, List.length_append]; omega)) rfl rfl ?_ <;> simp only [evX, reduceIte, reduceCtorEq, Nat.reduceLT, Nat.reduceAdd, Nat.reduceEqDiff, Nat.reduceBEq, Nat.reduceLeDiff, Nat.reduceMul, ttL, tyL, ht])
    (refine CallG.ok hE 9000 (hP ▸ ok_All a ba (by omega)) rfl rfl ?_ <;> simp only [evX, reduceIte, reduceCtorEq, Nat.reduceLT, Nat.reduceAdd, Nat.reduceEqDiff, Nat.reduceBEq, Nat.reduceLeDiff, Nat.reduceMul, ttL, tyL, ht])
    refine AppG.by hE 9000 rfl rfl (rowLen_prims _) (by simp; omega) ?_
    simp only [evX, reduceIte, reduceCtorEq, Nat.reduceLT, Nat.reduceAdd, Nat.reduceEqDiff, Nat.reduceBEq, Nat.reduceLeDiff, Nat.reduceMul, ttL, tyL, ht]
    (refine CallG.ok hE 9000 (hP ▸ ok_All b bb (by omega)) rfl rfl ?_ <;> simp only [evX, reduceIte, reduceCtorEq, Nat.reduceLT, Nat.reduceAdd, Nat.reduceEqDiff, Nat.reduceBEq, Nat.reduceLeDiff, Nat.reduceMul, ttL, tyL, ht])
    refine AppG.by hE 9000 rfl rfl (rowLen_prims _) (by simp; omega) ?_
    simp only [evX, reduceIte, reduceCtorEq, Nat.reduceLT, Nat.reduceAdd, Nat.reduceEqDiff, Nat.reduceBEq, Nat.reduceLeDiff, Nat.reduceMul, ttL, tyL, ht]
    rw [allN_append, ← List.map_append]
    (refine CallG.ok hE 9000 (hP ▸ ok_flowSame (allN a ++ allN b) (allN a ++ allN b) (by rw [List.length_append]; omega) (fun p hp => by rcases List.mem_append.1 hp with h | h; exact allN_B ba p h; exact allN_B bb p h)) rfl rfl ?_ <;> simp only [evX, reduceIte, reduceCtorEq, Nat.reduceLT, Nat.reduceAdd, Nat.reduceEqDiff, Nat.reduceBEq, Nat.reduceLeDiff, Nat.reduceMul, ttL, tyL, ht])
    exact RetQ.bool (.inr rfl) rfl (all2_refl _)
theorem law_PatchSteps (t : List File) (bt : treeB t) (l : List Named) (bl : namedsB l) (rl : ∀ p ∈ l, namedR p) (n : Int) (rn : i64 n) : Ok Try.prog 7 [treeA t, namedsA l, intA n] (.v (boolA true)) := by
  (refine Ok.code hT hM (fn := Try.f7) rfl rfl rfl _ _ rfl rfl (Nat.le_of_ble_eq_true rfl) fun E hE hP ht h0 hrd => ?_; refine Go.run hE 9000 ?_; simp only [Try.f7, evX, reduceIte, reduceCtorEq, Nat.reduceLT, Nat.reduceAdd, Nat.reduceEqDiff, Nat.reduceBEq, Nat.reduceLeDiff, Nat.reduceMul, ttL, tyL, ht])
  (refine CallG.ok hE 9000 (hP ▸ ok_awake14) rfl rfl ?_ <;> simp only [evX, reduceIte, reduceCtorEq, Nat.reduceLT, Nat.reduceAdd, Nat.reduceEqDiff, Nat.reduceBEq, Nat.reduceLeDiff, Nat.reduceMul, ttL, tyL, ht])
  (refine CallG.ok hE 9000 (hP ▸ ok_lightT t bt) rfl rfl ?_ <;> simp only [evX, reduceIte, reduceCtorEq, Nat.reduceLT, Nat.reduceAdd, Nat.reduceEqDiff, Nat.reduceBEq, Nat.reduceLeDiff, Nat.reduceMul, ttL, tyL, ht])
  (refine CallG.ok hE 9000 (hP ▸ ok_fewN l 12 bl) rfl rfl ?_ <;> simp only [evX, reduceIte, reduceCtorEq, Nat.reduceLT, Nat.reduceAdd, Nat.reduceEqDiff, Nat.reduceBEq, Nat.reduceLeDiff, Nat.reduceMul, ttL, tyL, ht])
  cases h1 : treeLight t <;> simp only [evX, reduceIte, reduceCtorEq, Nat.reduceLT, Nat.reduceAdd, Nat.reduceEqDiff, Nat.reduceBEq, Nat.reduceLeDiff, Nat.reduceMul, ttL, tyL, ht, Bool.not_false, Bool.not_true]
  · exact RetQ.bool (.inr rfl) rfl rfl
  cases h2 : fewN l 12 <;> simp only [evX, reduceIte, reduceCtorEq, Nat.reduceLT, Nat.reduceAdd, Nat.reduceEqDiff, Nat.reduceBEq, Nat.reduceLeDiff, Nat.reduceMul, ttL, tyL, ht, Bool.not_false, Bool.not_true]
  · exact RetQ.bool (.inr rfl) rfl rfl
  (refine CallG.ok hE 9000 (hP ▸ ok_treeMay t bt) rfl rfl ?_ <;> simp only [evX, reduceIte, reduceCtorEq, Nat.reduceLT, Nat.reduceAdd, Nat.reduceEqDiff, Nat.reduceBEq, Nat.reduceLeDiff, Nat.reduceMul, ttL, tyL, ht])
  cases h3 : treeMay t <;> simp only [evX, reduceIte, reduceCtorEq, Nat.reduceLT, Nat.reduceAdd, Nat.reduceEqDiff, Nat.reduceBEq, Nat.reduceLeDiff, Nat.reduceMul, ttL, tyL, ht, Bool.not_false, Bool.not_true]
  · exact RetQ.bool (.inr rfl) rfl rfl
  repeat' ((first | refine SelF.byN (fun hb => ?_) (fun hb => ?_) | refine SelF.by (fun hb => ?_) (fun hb => ?_)) <;> simp only [hb, evX, reduceIte, reduceCtorEq, Nat.reduceLT, Nat.reduceAdd, Nat.reduceEqDiff, Nat.reduceBEq, Nat.reduceLeDiff, Nat.reduceMul, ttL, tyL, ht])
  all_goals try exact RetQ.bool (.inr rfl) rfl rfl
  have hn : 0 ≤ n ∧ n ≤ l.length := by simp_all
  obtain ⟨n, rfl⟩ := Int.eq_ofNat_of_zero_le hn.1
  have hnl : n ≤ l.length := by omega
  have nt := light_N bt h1
  have ll := fewN_len h2
  have lla := fewN_all h2
  have hsp : allN l = allN (l.take n) ++ allN (l.drop n) := by rw [← allN_append, List.take_append_drop]
  have hl1 : (allN (l.take n)).length ≤ (allN l).length := by rw [hsp]; simp
  have hl2 : (allN (l.drop n)).length ≤ (allN l).length := by rw [hsp]; simp
  have bt1 : namedsB (l.take n) := ⟨by have := bl.1; simp only [List.length_take]; omega, fun p hp => bl.2 p (List.mem_of_mem_take hp)⟩
  have bd1 : namedsB (l.drop n) := ⟨by have := bl.1; simp only [List.length_drop]; omega, fun p hp => bl.2 p (List.mem_of_mem_drop hp)⟩
  (refine CallG.ok hE 9000 (hP ▸ ok_patchApply t l nt bl rl (by omega) (by decide) (by decide)) rfl rfl ?_ <;> simp only [evX, reduceIte, reduceCtorEq, Nat.reduceLT, Nat.reduceAdd, Nat.reduceEqDiff, Nat.reduceBEq, Nat.reduceLeDiff, Nat.reduceMul, ttL, tyL, ht])
  refine SlcR.by hE 9000 (by simp [rowLen]) (by simp) (by simp) (by simp; omega) ?_
  simp only [evX, reduceIte, reduceCtorEq, Nat.reduceLT, Nat.reduceAdd, Nat.reduceEqDiff, Nat.reduceBEq, Nat.reduceLeDiff, Nat.reduceMul, ttL, tyL, ht]
  rw [show List.drop (Int.toNat 0) (List.take ((n : Int)).toNat (namedsC l)) = namedsC (l.take n) by rw [Int.toNat_natCast, Int.toNat_zero, List.drop_zero]; exact List.map_take.symm]
  (refine CallG.ok hE 9000 (hP ▸ ok_patchApply t (l.take n) nt bt1 (fun p hp => rl p (List.mem_of_mem_take hp)) (by omega) (by decide) (by decide)) rfl rfl ?_ <;> simp only [evX, reduceIte, reduceCtorEq, Nat.reduceLT, Nat.reduceAdd, Nat.reduceEqDiff, Nat.reduceBEq, Nat.reduceLeDiff, Nat.reduceMul, ttL, tyL, ht])
  ((first | refine SelF.byN (fun hb => ?_) (fun hb => ?_) | refine SelF.by (fun hb => ?_) (fun hb => ?_)) <;> simp only [hb, evX, reduceIte, reduceCtorEq, Nat.reduceLT, Nat.reduceAdd, Nat.reduceEqDiff, Nat.reduceBEq, Nat.reduceLeDiff, Nat.reduceMul, ttL, tyL, ht])
  · have h4 : (runL t (allN (l.take n))).2 ≠ 0 := by simpa using hb
    have e : runL t (allN l) = ([], (runL t (allN (l.take n))).2) := by rw [hsp, runL_append, if_neg h4]
    simp only [e, beq_self_eq_true, evX, reduceIte, reduceCtorEq, Nat.reduceLT, Nat.reduceAdd, Nat.reduceEqDiff, Nat.reduceBEq, Nat.reduceLeDiff, Nat.reduceMul, ttL, tyL, ht]
    exact RetQ.bool (.inr rfl) rfl rfl
  · have h4 : (runL t (allN (l.take n))).2 = 0 := by simpa using hb
    have e : runL t (allN l) = runL (runL t (allN (l.take n))).1 (allN (l.drop n)) := by rw [hsp, runL_app h4]
    have nv := runL_N nt (allN_R (l := l.take n) (fun p hp => rl p (List.mem_of_mem_take hp)))
    refine SlcR.by hE 9000 (by simp [rowLen]) (by simp) (by simp; omega) (by simp) ?_
    simp only [evX, reduceIte, reduceCtorEq, Nat.reduceLT, Nat.reduceAdd, Nat.reduceEqDiff, Nat.reduceBEq, Nat.reduceLeDiff, Nat.reduceMul, ttL, tyL, ht]
    rw [show List.drop ((n : Int)).toNat (List.take ((l.length : Int)).toNat (namedsC l)) = namedsC (l.drop n) by rw [Int.toNat_natCast, Int.toNat_natCast, List.take_of_length_le (by simp)]; exact List.map_drop.symm]
    (refine CallG.ok hE 9000 (hP ▸ ok_All (l.drop n) bd1 (by omega)) rfl rfl ?_ <;> simp only [evX, reduceIte, reduceCtorEq, Nat.reduceLT, Nat.reduceAdd, Nat.reduceEqDiff, Nat.reduceBEq, Nat.reduceLeDiff, Nat.reduceMul, ttL, tyL, ht])
    (refine CallG.ok hE 9000 (hP ▸ ok_flowApply (runL t (allN (l.take n))).1 (allN (l.drop n)) nv (by omega) (allN_B bd1) (allN_R (fun p hp => rl p (List.mem_of_mem_drop hp))) (Nat.le_trans (m := 1000 * 40) (Nat.mul_le_mul_right _ (by omega)) (by decide)) (Nat.le_trans (m := 100000 * 16) (Nat.mul_le_mul_right _ (by omega)) (by decide))) rfl rfl ?_ <;> simp only [evX, reduceIte, reduceCtorEq, Nat.reduceLT, Nat.reduceAdd, Nat.reduceEqDiff, Nat.reduceBEq, Nat.reduceLeDiff, Nat.reduceMul, ttL, tyL, ht])
    rw [← e]
    simp only [beq_self_eq_true, evX, reduceIte, reduceCtorEq, Nat.reduceLT, Nat.reduceAdd, Nat.reduceEqDiff, Nat.reduceBEq, Nat.reduceLeDiff, Nat.reduceMul, ttL, tyL, ht]
    have hB : treeB (runL t (allN l)).1 := (runL_N nt (allN_R rl)).B (Nat.le_trans (m := 1000 * 40) (Nat.mul_le_mul_right _ (by omega)) (by decide)) (Nat.le_trans (m := 100000 * 16) (Nat.mul_le_mul_right _ (by omega)) (by decide))
    (refine CallG.ok hE 9000 (hP ▸ ok_treeSame (runL t (allN l)).1 (runL t (allN l)).1 hB) rfl rfl ?_ <;> simp only [evX, reduceIte, reduceCtorEq, Nat.reduceLT, Nat.reduceAdd, Nat.reduceEqDiff, Nat.reduceBEq, Nat.reduceLeDiff, Nat.reduceMul, ttL, tyL, ht])
    exact RetQ.bool (.inr rfl) rfl (treeEq_refl _)
end Go.Proofs.Ytmijejoddoolpaa
