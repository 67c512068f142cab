/- The program's functions, walked (part 10). -/
import Derived.Test.YtmfbcgheffdghaaGreatS9
/- The laws of named patches. -/
namespace Go.Proofs.YtmfbcgheffdghaaGreat
open Go.Vam Go.Qm
set_option linter.unusedVariables false
set_option linter.unusedSimpArgs false
set_option maxRecDepth 8000
set_option maxHeartbeats 2000000

theorem ok_lightN (p : Named) (n : Int) (bp : namedB p) : Ok Tryz.prog 23 [namedA p, intA n] (.v (boolA (lightN p n))) := by
  have h2 := bp.2.1
  simp only [Big] at h2
  (refine Ok.code hT hM (fn := Tryz.f23) rfl rfl rfl _ _ rfl rfl (Nat.le_of_ble_eq_true rfl) fun E hE hP ht h0 hrd => ?_; refine Go.run hE 9000 ?_; simp only [Tryz.f23, evX, reduceIte, reduceCtorEq, Nat.reduceLT, Nat.reduceAdd, Nat.reduceEqDiff, Nat.reduceBEq, Nat.reduceLeDiff, Nat.reduceMul, ttL, tyL, ht])
  (refine CallG.ok hE 9000 (hP ▸ ok_Few p.l n (by omega) bp.2.2) rfl rfl ?_ <;> simp only [evX, reduceIte, reduceCtorEq, Nat.reduceLT, Nat.reduceAdd, Nat.reduceEqDiff, Nat.reduceBEq, Nat.reduceLeDiff, Nat.reduceMul, ttL, tyL, ht])
  repeat' ((first | refine SelF.byN (fun hb => ?_) (fun hb => ?_) | refine SelF.by (fun hb => ?_) (fun hb => ?_)) <;> simp only [hb, evX, reduceIte, reduceCtorEq, Nat.reduceLT, Nat.reduceAdd, Nat.reduceEqDiff, Nat.reduceBEq, Nat.reduceLeDiff, Nat.reduceMul, ttL, tyL, ht])
  all_goals exact RetQ.bool (.inr rfl) rfl (by unfold lightN; simp only [*, Bool.and_true, Bool.true_and, Bool.and_false, Bool.false_and, Bool.and_self])
theorem ok_fewNw (l : List Named) (n : Int) (h1 : l.length < 9223372036854775807) (bl : ∀ p ∈ l, namedB p) : Ok Tryz.prog 10 [namedsA l, intA n] (.v (boolA (fewN l n))) := by
  (refine Ok.code hT hM (fn := Tryz.f10) rfl rfl rfl _ _ rfl rfl (Nat.le_of_ble_eq_true rfl) fun E hE hP ht h0 hrd => ?_; refine Go.run hE 9000 ?_; simp only [Tryz.f10, evX, reduceIte, reduceCtorEq, Nat.reduceLT, Nat.reduceAdd, Nat.reduceEqDiff, Nat.reduceBEq, Nat.reduceLeDiff, Nat.reduceMul, ttL, tyL, ht])
  ((first | refine SelF.byN (fun hb => ?_) (fun hb => ?_) | refine SelF.by (fun hb => ?_) (fun hb => ?_)) <;> simp only [hb, evX, reduceIte, reduceCtorEq, Nat.reduceLT, Nat.reduceAdd, Nat.reduceEqDiff, Nat.reduceBEq, Nat.reduceLeDiff, Nat.reduceMul, ttL, tyL, ht])
  · exact RetQ.bool (.inr rfl) rfl (by simp_all [fewN]; omega)
  · have hn : (l.length : Int) ≤ n := by simp at hb; omega
    refine Loop.by hE (ι := {i : Nat // i ≤ l.length ∧ ((l.take i).all fun p => lightN p 10) = true}) (fun i => ⟨24, [(0, namedsA l), (5, intA i.1)], [], [], []⟩) (fun i => l.length - i.1) ⟨0, by simp⟩ 9000 ⟨[], Wk.of rfl (by simp) (by rw [h0]; simp [fixB]) (by simp [wkT, okA, wkP, cloE, Vam.look, sig, ]) (by simp [wkBs, setBx, nthB, wkBx, wkL, okA, wkP, cloE, sig, ]) (by simp) (by simp)⟩ (by simp [h0]) ?_
    rintro ⟨i, hi, hall⟩
    simp only [evX, reduceIte, reduceCtorEq, Nat.reduceLT, Nat.reduceAdd, Nat.reduceEqDiff, Nat.reduceBEq, Nat.reduceLeDiff, Nat.reduceMul, ttL, tyL, ht]
    ((first | refine SelF.byN (fun hb => ?_) (fun hb => ?_) | refine SelF.by (fun hb => ?_) (fun hb => ?_)) <;> simp only [hb, evX, reduceIte, reduceCtorEq, Nat.reduceLT, Nat.reduceAdd, Nat.reduceEqDiff, Nat.reduceBEq, Nat.reduceLeDiff, Nat.reduceMul, ttL, tyL, ht])
    · simp only [decide_eq_true_eq] at hb
      have hlt : i < l.length := by omega
      refine IdxR.nat hE 9000 hlt rfl ?_
      simp only [evX, reduceIte, reduceCtorEq, Nat.reduceLT, Nat.reduceAdd, Nat.reduceEqDiff, Nat.reduceBEq, Nat.reduceLeDiff, Nat.reduceMul, ttL, tyL, ht]
      (refine CallG.ok hE 9000 (hP ▸ ok_lightN l[i] 10 (bl _ (List.getElem_mem hlt))) rfl rfl ?_ <;> simp only [evX, reduceIte, reduceCtorEq, Nat.reduceLT, Nat.reduceAdd, Nat.reduceEqDiff, Nat.reduceBEq, Nat.reduceLeDiff, Nat.reduceMul, ttL, tyL, ht])
      ((first | refine SelF.byN (fun hb => ?_) (fun hb => ?_) | refine SelF.by (fun hb => ?_) (fun hb => ?_)) <;> simp only [hb, evX, reduceIte, reduceCtorEq, Nat.reduceLT, Nat.reduceAdd, Nat.reduceEqDiff, Nat.reduceBEq, Nat.reduceLeDiff, Nat.reduceMul, ttL, tyL, ht])
      · exact RetQ.bool (.inr rfl) rfl (by rw [fewN, all_at (f := fun p => lightN p 10) hlt (by simpa using hb)]; simp)
      · refine ⟨⟨i + 1, by omega, by rw [all_take hlt, hall]; simpa using hb⟩, [], Wk.of rfl (by simp) (by rw [h0]; simp [fixB]) (by simp [wkT, okA, wkP, cloE, Vam.look, sig, wrapN i (by omega)]) (by simp [wkBs, setBx, nthB, wkBx, wkL, okA, wkP, cloE, sig, wrapN i (by omega)]) (by simp) (by simp), by simp only; omega⟩
    · exact RetQ.bool (.inr rfl) rfl (by rw [fewN, all_full hi (by simpa using hb) hall]; simp_all)
theorem ok_fewN (l : List Named) (n : Int) (bl : namedsB l) : Ok Tryz.prog 10 [namedsA l, intA n] (.v (boolA (fewN l n))) := ok_fewNw l n (by have := bl.1; simp only [Big] at this; omega) bl.2
theorem allN_B {l : List Named} (bl : namedsB l) : ∀ q ∈ allN l, primB q := fun q hq => by
  obtain ⟨p, h1, h2⟩ := allN_mem hq
  exact (bl.2 p h1).2.2 q h2
theorem allN_R {l : List Named} (rl : ∀ p ∈ l, namedR p) : ∀ q ∈ allN l, primR q := fun q hq => by
  obtain ⟨p, h1, h2⟩ := allN_mem hq
  exact (rl p h1).2.2 q h2
theorem ok_patchApply (t : List File) (l : List Named) {a b : Nat} (nt : treeN a b t) (bl : namedsB l) (rl : ∀ p ∈ l, namedR p) (hn : (allN l).length ≤ 200000) (ha : (a + 200000) * 40 ≤ Big) (hb' : (b + 200 * 200000) * 16 ≤ Big) : Ok Tryz.prog 16 [treeA t, namedsA l] (.v (.tup [treeA (runL t (allN l)).1, intA (runL t (allN l)).2])) := by
  (refine Ok.code hT hM (fn := Tryz.f16) rfl rfl rfl _ _ rfl rfl (Nat.le_of_ble_eq_true rfl) fun E hE hP ht h0 hrd => ?_; refine Go.run hE 9000 ?_; simp only [Tryz.f16, evX, reduceIte, reduceCtorEq, Nat.reduceLT, Nat.reduceAdd, Nat.reduceEqDiff, Nat.reduceBEq, Nat.reduceLeDiff, Nat.reduceMul, ttL, tyL, ht])
  (refine CallG.ok hE 9000 (hP ▸ ok_All l bl (by omega)) rfl rfl ?_ <;> simp only [evX, reduceIte, reduceCtorEq, Nat.reduceLT, Nat.reduceAdd, Nat.reduceEqDiff, Nat.reduceBEq, Nat.reduceLeDiff, Nat.reduceMul, ttL, tyL, ht])
  (refine CallG.ok hE 9000 (hP ▸ ok_flowApply t (allN l) nt (by omega) (allN_B bl) (allN_R rl) (Nat.le_trans (Nat.mul_le_mul_right _ (by omega)) ha) (Nat.le_trans (Nat.mul_le_mul_right _ (by omega)) hb')) rfl rfl ?_ <;> simp only [evX, reduceIte, reduceCtorEq, Nat.reduceLT, Nat.reduceAdd, Nat.reduceEqDiff, Nat.reduceBEq, Nat.reduceLeDiff, Nat.reduceMul, ttL, tyL, ht])
  exact RetQ.two (.inr rfl) rfl rfl rfl rfl
def aw14 : Named := ⟨⟨0, 1⟩, [], ⟨#[]⟩, [⟨0, ⟨#[97]⟩, ⟨#[]⟩, hunkZ⟩]⟩
theorem aw14a : runL [] (allN [aw14]) = ([⟨⟨#[97]⟩, []⟩], 0) := by kernel_rfl
theorem aw14b : mayN aw14 = true := by kernel_rfl
theorem aw14c : findN [aw14] ⟨0, 1⟩ = 0 := by kernel_rfl
theorem aw14_B : namedB aw14 := ⟨by simp [aw14], by simp [aw14, Big], by simp [aw14, hunkZ]⟩
theorem aw14_R : namedR aw14 := ⟨⟨by simp [aw14, i64], by simp [aw14, i64]⟩, by simp [aw14], fun q hq => by
  simp only [aw14, List.mem_singleton] at hq
  subst hq
  exact ⟨by simp [i64], by decide, by decide, by simp [hunkZ, i64], by simp [hunkZ, strsZ], by simp [hunkZ, strsZ]⟩⟩
theorem light_text {p : Named} {n : Int} (h : lightN p n = true) : strZ p.text := by
  simp only [lightN, Bool.and_eq_true, decide_eq_true_eq] at h
  have := h.2
  show p.text.size ≤ Big
  simp only [Big]
  omega
end Go.Proofs.YtmfbcgheffdghaaGreat

/- The laws of named patches that pass one another. -/
namespace Go.Proofs.YtmfbcgheffdghaaGreat
open Go.Vam Go.Qm
set_option linter.unusedVariables false
set_option linter.unusedSimpArgs false
set_option maxRecDepth 8000
set_option maxHeartbeats 2000000

theorem passNT_some {p q : Named} (h : (passNT p q).2.2 = true) : passN p q = some ((passNT p q).1, (passNT p q).2.1) := by
  unfold passNT at h ⊢
  split at h
  · rename_i r e; exact e
  · simp at h
theorem passNT_of {p q x y : Named} (h : passN p q = some (x, y)) : passNT p q = (x, y, true) := by rw [passNT, h]
theorem passNT_none {p q : Named} (h : (passNT p q).2.2 = false) : passNT p q = (namedZ, namedZ, false) := by
  unfold passNT at h ⊢
  split at h
  · simp at h
  · rfl
theorem namedZ_ok : okN namedZ := ⟨⟨by simp [namedZ], by simp [namedZ], by simp [namedZ]⟩, ⟨⟨by simp [namedZ, i64], by simp [namedZ, i64]⟩, by simp [namedZ], by simp [namedZ]⟩⟩
theorem passNT_keep {p q : Named} (kp : okN p) (kq : okN q) : okN (passNT p q).1 ∧ okN (passNT p q).2.1 := by
  unfold passNT
  split
  · rename_i r e; exact okN_pass p q r.1 r.2 kp kq e
  · exact ⟨namedZ_ok, namedZ_ok⟩
def aw15p : Named := ⟨⟨0, 1⟩, [], ⟨#[]⟩, [⟨0, ⟨#[97]⟩, ⟨#[]⟩, hunkZ⟩]⟩
def aw15q : Named := ⟨⟨0, 2⟩, [], ⟨#[]⟩, [⟨0, ⟨#[98]⟩, ⟨#[]⟩, hunkZ⟩]⟩
def aw15r : Named := ⟨⟨0, 2⟩, [⟨0, 1⟩], ⟨#[]⟩, [⟨0, ⟨#[98]⟩, ⟨#[]⟩, hunkZ⟩]⟩
theorem aw15a : passNT aw15p aw15q = (aw15q, aw15p, true) := by kernel_rfl
theorem aw15b : passNT aw15p aw15r = (namedZ, namedZ, false) := by kernel_rfl
theorem aw15c : overN [aw15p] aw15q = some (aw15q, [aw15p]) := by kernel_rfl
theorem aw15_ok (s : Str) (hs : strZ s) (n : Int) (hn : i64 n) (ds : List Qm.Id) (hd : ds.length ≤ 1) (hr : ∀ i ∈ ds, idR i) : okN ⟨⟨0, n⟩, ds, ⟨#[]⟩, [⟨0, s, ⟨#[]⟩, hunkZ⟩]⟩ :=
  ⟨⟨by simp only [Big]; omega, by simp [Big], by simp [hunkZ]⟩, ⟨⟨by simp [i64], hn⟩, hr, fun q hq => by
    simp only [List.mem_singleton] at hq
    subst hq
    exact ⟨by simp [i64], hs, (show strZ (⟨#[]⟩ : Str) by decide), by simp [hunkZ, i64], by simp [hunkZ, strsZ], by simp [hunkZ, strsZ]⟩⟩⟩
theorem aw15_p : okN aw15p := aw15_ok _ (by decide) _ (by simp [i64]) _ (by simp) (by simp)
theorem aw15_q : okN aw15q := aw15_ok _ (by decide) _ (by simp [i64]) _ (by simp) (by simp)
theorem aw15_r : okN aw15r := aw15_ok _ (by decide) _ (by simp [i64]) _ (by simp) (by simp [idR, i64])
theorem fewN2 {p q : Named} {n : Int} (h : fewN [p, q] n = true) : few p.l 10 = true ∧ few q.l 10 = true ∧ p.deps.length ≤ 100 ∧ q.deps.length ≤ 100 := by
  simp only [fewN, Bool.and_eq_true, List.all_eq_true, lightN, decide_eq_true_eq] at h
  have h1 := h.2 p (by simp)
  have h2 := h.2 q (by simp)
  exact ⟨h1.1.1, h2.1.1, by omega, by omega⟩
theorem passN_deps {p q : Named} (h : q.deps.any (fun i => idEq i p.id) = true) : passN p q = none := by
  unfold passN
  rw [if_pos h]
theorem few_atD {l : List Prim} {n : Int} (h : few l n = true) : atMost 524288 l := fun p hp => by
  simp only [few, Bool.and_eq_true, List.all_eq_true] at h
  have := h.2 p hp
  simp only [Bool.and_eq_true, decide_eq_true_eq] at this
  exact this.2
end Go.Proofs.YtmfbcgheffdghaaGreat
