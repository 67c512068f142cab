/- The laws of named patches that pass one another. -/
import Derived.Test.YtmijejoddoolpaaGreatTh2
import Derived.Test.YtmijejoddoolpaaGreatTf3
namespace Go.Proofs.YtmijejoddoolpaaGreat
open Go.Vam Go.Qm
set_option linter.unusedVariables false
set_option linter.unusedSimpArgs false
set_option maxRecDepth 8000
set_option maxHeartbeats 2000000

theorem passNT_some {p q : Named} (h : (passNT p q).2.2 = true) : passN p q = some ((passNT p q).1, (passNT p q).2.1) := by
  unfold passNT at h ⊢
  split at h
  · rename_i r e; exact e
  · simp at h
theorem passNT_of {p q x y : Named} (h : passN p q = some (x, y)) : passNT p q = (x, y, true) := by rw [passNT, h]
theorem passNT_none {p q : Named} (h : (passNT p q).2.2 = false) : passNT p q = (namedZ, namedZ, false) := by
  unfold passNT at h ⊢
  split at h
  · simp at h
  · rfl
theorem namedZ_ok : okN namedZ := ⟨⟨by simp [namedZ], by simp [namedZ], by simp [namedZ]⟩, ⟨⟨by simp [namedZ, i64], by simp [namedZ, i64]⟩, by simp [namedZ], by simp [namedZ]⟩⟩
theorem passNT_keep {p q : Named} (kp : okN p) (kq : okN q) : okN (passNT p q).1 ∧ okN (passNT p q).2.1 := by
  unfold passNT
  split
  · rename_i r e; exact okN_pass p q r.1 r.2 kp kq e
  · exact ⟨namedZ_ok, namedZ_ok⟩
def aw15p : Named := ⟨⟨0, 1⟩, [], ⟨#[]⟩, [⟨0, ⟨#[97]⟩, ⟨#[]⟩, hunkZ⟩]⟩
def aw15q : Named := ⟨⟨0, 2⟩, [], ⟨#[]⟩, [⟨0, ⟨#[98]⟩, ⟨#[]⟩, hunkZ⟩]⟩
def aw15r : Named := ⟨⟨0, 2⟩, [⟨0, 1⟩], ⟨#[]⟩, [⟨0, ⟨#[98]⟩, ⟨#[]⟩, hunkZ⟩]⟩
theorem aw15a : passNT aw15p aw15q = (aw15q, aw15p, true) := by kernel_rfl
theorem aw15b : passNT aw15p aw15r = (namedZ, namedZ, false) := by kernel_rfl
theorem aw15c : overN [aw15p] aw15q = some (aw15q, [aw15p]) := by kernel_rfl
theorem aw15_ok (s : Str) (hs : strZ s) (n : Int) (hn : i64 n) (ds : List Qm.Id) (hd : ds.length ≤ 1) (hr : ∀ i ∈ ds, idR i) : okN ⟨⟨0, n⟩, ds, ⟨#[]⟩, [⟨0, s, ⟨#[]⟩, hunkZ⟩]⟩ :=
  ⟨⟨by simp only [Big]; omega, by simp [Big], by simp [hunkZ]⟩, ⟨⟨by simp [i64], hn⟩, hr, fun q hq => by
    simp only [List.mem_singleton] at hq
    subst hq
    exact ⟨by simp [i64], hs, (show strZ (⟨#[]⟩ : Str) by decide), by simp [hunkZ, i64], by simp [hunkZ, strsZ], by simp [hunkZ, strsZ]⟩⟩⟩
theorem aw15_p : okN aw15p := aw15_ok _ (by decide) _ (by simp [i64]) _ (by simp) (by simp)
theorem aw15_q : okN aw15q := aw15_ok _ (by decide) _ (by simp [i64]) _ (by simp) (by simp)
theorem aw15_r : okN aw15r := aw15_ok _ (by decide) _ (by simp [i64]) _ (by simp) (by simp [idR, i64])
theorem ok_awake15 : Ok Tryz.prog 18 [] (.v (boolA true)) := by
  have hov := ok_Over [aw15p] aw15q (by simp) (by simpa using aw15_p) aw15_q
  rw [aw15c] at hov
  (refine Ok.code hT hM (fn := Tryz.f18) rfl rfl rfl _ _ rfl rfl (Nat.le_of_ble_eq_true rfl) fun E hE hP ht h0 hrd => ?_; refine Go.run hE 9000 ?_; simp only [Tryz.f18, evX, reduceIte, reduceCtorEq, Nat.reduceLT, Nat.reduceAdd, Nat.reduceEqDiff, Nat.reduceBEq, Nat.reduceLeDiff, Nat.reduceMul, ttL, tyL, ht])
  refine HardOp.frz hE 9000 15 rfl rfl rfl ?_
  simp only [evX, reduceIte, reduceCtorEq, Nat.reduceLT, Nat.reduceAdd, Nat.reduceEqDiff, Nat.reduceBEq, Nat.reduceLeDiff, Nat.reduceMul, ttL, tyL, ht]
  (refine StG.by hE ht 9000 rfl ?_ <;> simp only [evX, reduceIte, reduceCtorEq, Nat.reduceLT, Nat.reduceAdd, Nat.reduceEqDiff, Nat.reduceBEq, Nat.reduceLeDiff, Nat.reduceMul, ttL, tyL, ht])
  refine HardOp.frz hE 9000 19 rfl rfl rfl ?_
  simp only [evX, reduceIte, reduceCtorEq, Nat.reduceLT, Nat.reduceAdd, Nat.reduceEqDiff, Nat.reduceBEq, Nat.reduceLeDiff, Nat.reduceMul, ttL, tyL, ht]
  (refine StG.by hE ht 9000 rfl ?_ <;> simp only [evX, reduceIte, reduceCtorEq, Nat.reduceLT, Nat.reduceAdd, Nat.reduceEqDiff, Nat.reduceBEq, Nat.reduceLeDiff, Nat.reduceMul, ttL, tyL, ht])
  refine HardOp.frz hE 9000 23 rfl rfl rfl ?_
  simp only [evX, reduceIte, reduceCtorEq, Nat.reduceLT, Nat.reduceAdd, Nat.reduceEqDiff, Nat.reduceBEq, Nat.reduceLeDiff, Nat.reduceMul, ttL, tyL, ht]
  refine HardOp.frz hE 9000 25 rfl rfl rfl ?_
  simp only [evX, reduceIte, reduceCtorEq, Nat.reduceLT, Nat.reduceAdd, Nat.reduceEqDiff, Nat.reduceBEq, Nat.reduceLeDiff, Nat.reduceMul, ttL, tyL, ht]
  (refine StG.by hE ht 9000 rfl ?_ <;> simp only [evX, reduceIte, reduceCtorEq, Nat.reduceLT, Nat.reduceAdd, Nat.reduceEqDiff, Nat.reduceBEq, Nat.reduceLeDiff, Nat.reduceMul, ttL, tyL, ht])
  (refine CallG.ok hE 9000 (hP ▸ ok_tradePass aw15p aw15q aw15_p aw15_q) rfl rfl ?_ <;> simp only [evX, reduceIte, reduceCtorEq, Nat.reduceLT, Nat.reduceAdd, Nat.reduceEqDiff, Nat.reduceBEq, Nat.reduceLeDiff, Nat.reduceMul, ttL, tyL, ht])
  simp only [aw15a, evX, reduceIte, reduceCtorEq, Nat.reduceLT, Nat.reduceAdd, Nat.reduceEqDiff, Nat.reduceBEq, Nat.reduceLeDiff, Nat.reduceMul, ttL, tyL, ht]
  (refine StG.by hE ht 9000 rfl ?_ <;> simp only [evX, reduceIte, reduceCtorEq, Nat.reduceLT, Nat.reduceAdd, Nat.reduceEqDiff, Nat.reduceBEq, Nat.reduceLeDiff, Nat.reduceMul, ttL, tyL, ht])
  (refine StG.by hE ht 9000 rfl ?_ <;> simp only [evX, reduceIte, reduceCtorEq, Nat.reduceLT, Nat.reduceAdd, Nat.reduceEqDiff, Nat.reduceBEq, Nat.reduceLeDiff, Nat.reduceMul, ttL, tyL, ht])
  (refine CallG.ok hE 9000 (hP ▸ ok_tradePass aw15p aw15r aw15_p aw15_r) rfl rfl ?_ <;> simp only [evX, reduceIte, reduceCtorEq, Nat.reduceLT, Nat.reduceAdd, Nat.reduceEqDiff, Nat.reduceBEq, Nat.reduceLeDiff, Nat.reduceMul, ttL, tyL, ht])
  simp only [aw15b, evX, reduceIte, reduceCtorEq, Nat.reduceLT, Nat.reduceAdd, Nat.reduceEqDiff, Nat.reduceBEq, Nat.reduceLeDiff, Nat.reduceMul, ttL, tyL, ht]
  (refine StG.by hE ht 9000 rfl ?_ <;> simp only [evX, reduceIte, reduceCtorEq, Nat.reduceLT, Nat.reduceAdd, Nat.reduceEqDiff, Nat.reduceBEq, Nat.reduceLeDiff, Nat.reduceMul, ttL, tyL, ht])
  (refine StG.by hE ht 9000 rfl ?_ <;> simp only [evX, reduceIte, reduceCtorEq, Nat.reduceLT, Nat.reduceAdd, Nat.reduceEqDiff, Nat.reduceBEq, Nat.reduceLeDiff, Nat.reduceMul, ttL, tyL, ht])
  (refine CallG.ok hE 9000 (hP ▸ hov) rfl rfl ?_ <;> simp only [evX, reduceIte, reduceCtorEq, Nat.reduceLT, Nat.reduceAdd, Nat.reduceEqDiff, Nat.reduceBEq, Nat.reduceLeDiff, Nat.reduceMul, ttL, tyL, ht])
  simp only [retE, evX, reduceIte, reduceCtorEq, Nat.reduceLT, Nat.reduceAdd, Nat.reduceEqDiff, Nat.reduceBEq, Nat.reduceLeDiff, Nat.reduceMul, ttL, tyL, ht]
  (refine StG.by hE ht 9000 rfl ?_ <;> simp only [evX, reduceIte, reduceCtorEq, Nat.reduceLT, Nat.reduceAdd, Nat.reduceEqDiff, Nat.reduceBEq, Nat.reduceLeDiff, Nat.reduceMul, ttL, tyL, ht])
  (refine CallG.ok hE 9000 (hP ▸ ok_patchSame aw15q aw15q aw15_q.b) rfl rfl ?_ <;> simp only [evX, reduceIte, reduceCtorEq, Nat.reduceLT, Nat.reduceAdd, Nat.reduceEqDiff, Nat.reduceBEq, Nat.reduceLeDiff, Nat.reduceMul, ttL, tyL, ht])
  simp only [sameN_refl, evX, reduceIte, reduceCtorEq, Nat.reduceLT, Nat.reduceAdd, Nat.reduceEqDiff, Nat.reduceBEq, Nat.reduceLeDiff, Nat.reduceMul, ttL, tyL, ht]
  (refine CallG.ok hE 9000 (hP ▸ ok_patchSame aw15p aw15p aw15_p.b) rfl rfl ?_ <;> simp only [evX, reduceIte, reduceCtorEq, Nat.reduceLT, Nat.reduceAdd, Nat.reduceEqDiff, Nat.reduceBEq, Nat.reduceLeDiff, Nat.reduceMul, ttL, tyL, ht])
  simp only [sameN_refl, evX, reduceIte, reduceCtorEq, Nat.reduceLT, Nat.reduceAdd, Nat.reduceEqDiff, Nat.reduceBEq, Nat.reduceLeDiff, Nat.reduceMul, ttL, tyL, ht]
  (refine CallG.ok hE 9000 (hP ▸ ok_patchSame aw15q aw15q aw15_q.b) rfl rfl ?_ <;> simp only [evX, reduceIte, reduceCtorEq, Nat.reduceLT, Nat.reduceAdd, Nat.reduceEqDiff, Nat.reduceBEq, Nat.reduceLeDiff, Nat.reduceMul, ttL, tyL, ht])
  simp only [sameN_refl, evX, reduceIte, reduceCtorEq, Nat.reduceLT, Nat.reduceAdd, Nat.reduceEqDiff, Nat.reduceBEq, Nat.reduceLeDiff, Nat.reduceMul, ttL, tyL, ht]
  exact RetQ.bool (.inr rfl) rfl rfl
theorem fewN2 {p q : Named} {n : Int} (h : fewN [p, q] n = true) : few p.l 10 = true ∧ few q.l 10 = true ∧ p.deps.length ≤ 100 ∧ q.deps.length ≤ 100 := by
  simp only [fewN, Bool.and_eq_true, List.all_eq_true, lightN, decide_eq_true_eq] at h
  have h1 := h.2 p (by simp)
  have h2 := h.2 q (by simp)
  exact ⟨h1.1.1, h2.1.1, by omega, by omega⟩
theorem passN_deps {p q : Named} (h : q.deps.any (fun i => idEq i p.id) = true) : passN p q = none := by
  unfold passN
  rw [if_pos h]
theorem few_atD {l : List Prim} {n : Int} (h : few l n = true) : atMost 524288 l := fun p hp => by
  simp only [few, Bool.and_eq_true, List.all_eq_true] at h
  have := h.2 p hp
  simp only [Bool.and_eq_true, decide_eq_true_eq] at this
  exact this.2
end Go.Proofs.YtmijejoddoolpaaGreat
