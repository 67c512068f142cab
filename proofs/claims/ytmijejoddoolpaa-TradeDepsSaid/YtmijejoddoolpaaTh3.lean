/- The laws of named patches that pass one another. -/
import Derived.Test.YtmijejoddoolpaaTh2
import Derived.Test.YtmijejoddoolpaaTf3
namespace Go.Proofs.Ytmijejoddoolpaa
open Go.Vam Go.Qm
set_option linter.unusedVariables false
set_option linter.unusedSimpArgs false
set_option maxRecDepth 8000
set_option maxHeartbeats 2000000

theorem passNT_some {p q : Named} (h : (passNT p q).2.2 = true) : passN p q = some ((passNT p q).1, (passNT p q).2.1) := by
  unfold passNT at h ⊢
  split at h
  · rename_i r e; exact e
  · simp at h
theorem passNT_of {p q x y : Named} (h : passN p q = some (x, y)) : passNT p q = (x, y, true) := by rw [passNT, h]
theorem passNT_none {p q : Named} (h : (passNT p q).2.2 = false) : passNT p q = (namedZ, namedZ, false) := by
  unfold passNT at h ⊢
  split at h
  · simp at h
  · rfl
theorem namedZ_ok : okN namedZ := ⟨⟨by simp [namedZ], by simp [namedZ], by simp [namedZ]⟩, ⟨⟨by simp [namedZ, i64], by simp [namedZ, i64]⟩, by simp [namedZ], by simp [namedZ]⟩⟩
theorem passNT_keep {p q : Named} (kp : okN p) (kq : okN q) : okN (passNT p q).1 ∧ okN (passNT p q).2.1 := by
  unfold passNT
  split
  · rename_i r e; exact okN_pass p q r.1 r.2 kp kq e
  · exact ⟨namedZ_ok, namedZ_ok⟩
def aw15p : Named := ⟨⟨0, 1⟩, [], ⟨#[]⟩, [⟨0, ⟨#[97]⟩, ⟨#[]⟩, hunkZ⟩]⟩
def aw15q : Named := ⟨⟨0, 2⟩, [], ⟨#[]⟩, [⟨0, ⟨#[98]⟩, ⟨#[]⟩, hunkZ⟩]⟩
def aw15r : Named := ⟨⟨0, 2⟩, [⟨0, 1⟩], ⟨#[]⟩, [⟨0, ⟨#[98]⟩, ⟨#[]⟩, hunkZ⟩]⟩
theorem aw15a : passNT aw15p aw15q = (aw15q, aw15p, true) := by kernel_rfl
theorem aw15b : passNT aw15p aw15r = (namedZ, namedZ, false) := by kernel_rfl
theorem aw15c : overN [aw15p] aw15q = some (aw15q, [aw15p]) := by kernel_rfl
theorem aw15_ok (s : Str) (hs : strZ s) (n : Int) (hn : i64 n) (ds : List Qm.Id) (hd : ds.length ≤ 1) (hr : ∀ i ∈ ds, idR i) : okN ⟨⟨0, n⟩, ds, ⟨#[]⟩, [⟨0, s, ⟨#[]⟩, hunkZ⟩]⟩ :=
  ⟨⟨by simp only [Big]; omega, by simp [Big], by simp [hunkZ]⟩, ⟨⟨by simp [i64], hn⟩, hr, fun q hq => by
    simp only [List.mem_singleton] at hq
    subst hq
    exact ⟨by simp [i64], hs, (show strZ (⟨#[]⟩ : Str) by decide), by simp [hunkZ, i64], by simp [hunkZ, strsZ], by simp [hunkZ, strsZ]⟩⟩⟩
theorem aw15_p : okN aw15p := aw15_ok _ (by decide) _ (by simp [i64]) _ (by simp) (by simp)
theorem aw15_q : okN aw15q := aw15_ok _ (by decide) _ (by simp [i64]) _ (by simp) (by simp)
theorem aw15_r : okN aw15r := aw15_ok _ (by decide) _ (by simp [i64]) _ (by simp) (by simp [idR, i64])
theorem ok_awake15 : Ok Try.prog 27 [] (.v (boolA true)) := by
  have hov := ok_Over [aw15p] aw15q (by simp) (by simpa using aw15_p) aw15_q
  rw [aw15c] at hov
  (refine Ok.code hT hM (fn := Try.f27) rfl rfl rfl _ _ rfl rfl (Nat.le_of_ble_eq_true rfl) fun E hE hP ht h0 hrd => ?_; refine Go.run hE 9000 ?_; simp only [Try.f27, evX, reduceIte, reduceCtorEq, Nat.reduceLT, Nat.reduceAdd, Nat.reduceEqDiff, Nat.reduceBEq, Nat.reduceLeDiff, Nat.reduceMul, ttL, tyL, ht])
  refine HardOp.frz hE 9000 15 rfl rfl rfl ?_
  simp only [evX, reduceIte, reduceCtorEq, Nat.reduceLT, Nat.reduceAdd, Nat.reduceEqDiff, Nat.reduceBEq, Nat.reduceLeDiff, Nat.reduceMul, ttL, tyL, ht]
  (refine StG.by hE ht 9000 rfl ?_ <;> simp only [evX, reduceIte, reduceCtorEq, Nat.reduceLT, Nat.reduceAdd, Nat.reduceEqDiff, Nat.reduceBEq, Nat.reduceLeDiff, Nat.reduceMul, ttL, tyL, ht])
  refine HardOp.frz hE 9000 19 rfl rfl rfl ?_
  simp only [evX, reduceIte, reduceCtorEq, Nat.reduceLT, Nat.reduceAdd, Nat.reduceEqDiff, Nat.reduceBEq, Nat.reduceLeDiff, Nat.reduceMul, ttL, tyL, ht]
  (refine StG.by hE ht 9000 rfl ?_ <;> simp only [evX, reduceIte, reduceCtorEq, Nat.reduceLT, Nat.reduceAdd, Nat.reduceEqDiff, Nat.reduceBEq, Nat.reduceLeDiff, Nat.reduceMul, ttL, tyL, ht])
  refine HardOp.frz hE 9000 23 rfl rfl rfl ?_
  simp only [evX, reduceIte, reduceCtorEq, Nat.reduceLT, Nat.reduceAdd, Nat.reduceEqDiff, Nat.reduceBEq, Nat.reduceLeDiff, Nat.reduceMul, ttL, tyL, ht]
  refine HardOp.frz hE 9000 25 rfl rfl rfl ?_
  simp only [evX, reduceIte, reduceCtorEq, Nat.reduceLT, Nat.reduceAdd, Nat.reduceEqDiff, Nat.reduceBEq, Nat.reduceLeDiff, Nat.reduceMul, ttL, tyL, ht]
  (refine StG.by hE ht 9000 rfl ?_ <;> simp only [evX, reduceIte, reduceCtorEq, Nat.reduceLT, Nat.reduceAdd, Nat.reduceEqDiff, Nat.reduceBEq, Nat.reduceLeDiff, Nat.reduceMul, ttL, tyL, ht])
  (refine CallG.ok hE 9000 (hP ▸ ok_tradePass aw15p aw15q aw15_p aw15_q) rfl rfl ?_ <;> simp only [evX, reduceIte, reduceCtorEq, Nat.reduceLT, Nat.reduceAdd, Nat.reduceEqDiff, Nat.reduceBEq, Nat.reduceLeDiff, Nat.reduceMul, ttL, tyL, ht])
  simp only [aw15a, evX, reduceIte, reduceCtorEq, Nat.reduceLT, Nat.reduceAdd, Nat.reduceEqDiff, Nat.reduceBEq, Nat.reduceLeDiff, Nat.reduceMul, ttL, tyL, ht]
  (refine StG.by hE ht 9000 rfl ?_ <;> simp only [evX, reduceIte, reduceCtorEq, Nat.reduceLT, Nat.reduceAdd, Nat.reduceEqDiff, Nat.reduceBEq, Nat.reduceLeDiff, Nat.reduceMul, ttL, tyL, ht])
  (refine StG.by hE ht 9000 rfl ?_ <;> simp only [evX, reduceIte, reduceCtorEq, Nat.reduceLT, Nat.reduceAdd, Nat.reduceEqDiff, Nat.reduceBEq, Nat.reduceLeDiff, Nat.reduceMul, ttL, tyL, ht])
  (refine CallG.ok hE 9000 (hP ▸ ok_tradePass aw15p aw15r aw15_p aw15_r) rfl rfl ?_ <;> simp only [evX, reduceIte, reduceCtorEq, Nat.reduceLT, Nat.reduceAdd, Nat.reduceEqDiff, Nat.reduceBEq, Nat.reduceLeDiff, Nat.reduceMul, ttL, tyL, ht])
  simp only [aw15b, evX, reduceIte, reduceCtorEq, Nat.reduceLT, Nat.reduceAdd, Nat.reduceEqDiff, Nat.reduceBEq, Nat.reduceLeDiff, Nat.reduceMul, ttL, tyL, ht]
  (refine StG.by hE ht 9000 rfl ?_ <;> simp only [evX, reduceIte, reduceCtorEq, Nat.reduceLT, Nat.reduceAdd, Nat.reduceEqDiff, Nat.reduceBEq, Nat.reduceLeDiff, Nat.reduceMul, ttL, tyL, ht])
  (refine StG.by hE ht 9000 rfl ?_ <;> simp only [evX, reduceIte, reduceCtorEq, Nat.reduceLT, Nat.reduceAdd, Nat.reduceEqDiff, Nat.reduceBEq, Nat.reduceLeDiff, Nat.reduceMul, ttL, tyL, ht])
  (refine CallG.ok hE 9000 (hP ▸ hov) rfl rfl ?_ <;> simp only [evX, reduceIte, reduceCtorEq, Nat.reduceLT, Nat.reduceAdd, Nat.reduceEqDiff, Nat.reduceBEq, Nat.reduceLeDiff, Nat.reduceMul, ttL, tyL, ht])
  simp only [retE, evX, reduceIte, reduceCtorEq, Nat.reduceLT, Nat.reduceAdd, Nat.reduceEqDiff, Nat.reduceBEq, Nat.reduceLeDiff, Nat.reduceMul, ttL, tyL, ht]
  (refine StG.by hE ht 9000 rfl ?_ <;> simp only [evX, reduceIte, reduceCtorEq, Nat.reduceLT, Nat.reduceAdd, Nat.reduceEqDiff, Nat.reduceBEq, Nat.reduceLeDiff, Nat.reduceMul, ttL, tyL, ht])
  (refine CallG.ok hE 9000 (hP ▸ ok_patchSame aw15q aw15q aw15_q.b) rfl rfl ?_ <;> simp only [evX, reduceIte, reduceCtorEq, Nat.reduceLT, Nat.reduceAdd, Nat.reduceEqDiff, Nat.reduceBEq, Nat.reduceLeDiff, Nat.reduceMul, ttL, tyL, ht])
  simp only [sameN_refl, evX, reduceIte, reduceCtorEq, Nat.reduceLT, Nat.reduceAdd, Nat.reduceEqDiff, Nat.reduceBEq, Nat.reduceLeDiff, Nat.reduceMul, ttL, tyL, ht]
  (refine CallG.ok hE 9000 (hP ▸ ok_patchSame aw15p aw15p aw15_p.b) rfl rfl ?_ <;> simp only [evX, reduceIte, reduceCtorEq, Nat.reduceLT, Nat.reduceAdd, Nat.reduceEqDiff, Nat.reduceBEq, Nat.reduceLeDiff, Nat.reduceMul, ttL, tyL, ht])
  simp only [sameN_refl, evX, reduceIte, reduceCtorEq, Nat.reduceLT, Nat.reduceAdd, Nat.reduceEqDiff, Nat.reduceBEq, Nat.reduceLeDiff, Nat.reduceMul, ttL, tyL, ht]
  (refine CallG.ok hE 9000 (hP ▸ ok_patchSame aw15q aw15q aw15_q.b) rfl rfl ?_ <;> simp only [evX, reduceIte, reduceCtorEq, Nat.reduceLT, Nat.reduceAdd, Nat.reduceEqDiff, Nat.reduceBEq, Nat.reduceLeDiff, Nat.reduceMul, ttL, tyL, ht])
  simp only [sameN_refl, evX, reduceIte, reduceCtorEq, Nat.reduceLT, Nat.reduceAdd, Nat.reduceEqDiff, Nat.reduceBEq, Nat.reduceLeDiff, Nat.reduceMul, ttL, tyL, ht]
  exact RetQ.bool (.inr rfl) rfl rfl
theorem fewN2 {p q : Named} {n : Int} (h : fewN [p, q] n = true) : few p.l 10 = true ∧ few q.l 10 = true ∧ p.deps.length ≤ 100 ∧ q.deps.length ≤ 100 := by
  simp only [fewN, Bool.and_eq_true, List.all_eq_true, lightN, decide_eq_true_eq] at h
  have h1 := h.2 p (by simp)
  have h2 := h.2 q (by simp)
  exact ⟨h1.1.1, h2.1.1, by omega, by omega⟩
theorem passN_deps {p q : Named} (h : q.deps.any (fun i => idEq i p.id) = true) : passN p q = none := by
  unfold passN
  rw [if_pos h]
theorem few_atD {l : List Prim} {n : Int} (h : few l n = true) : atMost 524288 l := fun p hp => by
  simp only [few, Bool.and_eq_true, List.all_eq_true] at h
  have := h.2 p hp
  simp only [Bool.and_eq_true, decide_eq_true_eq] at this
  exact this.2
theorem law_TradeBack (p : Named) (bp : namedB p) (rp : namedR p) (q : Named) (bq : namedB q) (rq : namedR q) : Ok Try.prog 8 [namedA p, namedA q] (.v (boolA true)) := by
  have kp : okN p := ⟨bp, rp⟩
  have kq : okN q := ⟨bq, rq⟩
  (refine Ok.code hT hM (fn := Try.f8) rfl rfl rfl _ _ rfl rfl (Nat.le_of_ble_eq_true rfl) fun E hE hP ht h0 hrd => ?_; refine Go.run hE 9000 ?_; simp only [Try.f8, evX, reduceIte, reduceCtorEq, Nat.reduceLT, Nat.reduceAdd, Nat.reduceEqDiff, Nat.reduceBEq, Nat.reduceLeDiff, Nat.reduceMul, ttL, tyL, ht])
  (refine CallG.ok hE 9000 (hP ▸ ok_awake15) rfl rfl ?_ <;> simp only [evX, reduceIte, reduceCtorEq, Nat.reduceLT, Nat.reduceAdd, Nat.reduceEqDiff, Nat.reduceBEq, Nat.reduceLeDiff, Nat.reduceMul, ttL, tyL, ht])
  (refine CallG.ok hE 9000 (hP ▸ ok_fewN [p, q] 2 ⟨by simp [Big], by simpa using ⟨bp, bq⟩⟩) rfl rfl ?_ <;> simp only [evX, reduceIte, reduceCtorEq, Nat.reduceLT, Nat.reduceAdd, Nat.reduceEqDiff, Nat.reduceBEq, Nat.reduceLeDiff, Nat.reduceMul, ttL, tyL, ht])
  cases h1 : fewN [p, q] 2 <;> simp only [evX, reduceIte, reduceCtorEq, Nat.reduceLT, Nat.reduceAdd, Nat.reduceEqDiff, Nat.reduceBEq, Nat.reduceLeDiff, Nat.reduceMul, ttL, tyL, ht, Bool.not_false, Bool.not_true]
  · exact RetQ.bool (.inr rfl) rfl rfl
  obtain ⟨f1, f2, d1, d2⟩ := fewN2 h1
  have l1 := few_len f1
  have l2 := few_len f2
  refine Loop.by hE (ι := {i : Nat // i ≤ p.deps.length ∧ (p.deps.take i).any (fun y => idEq y q.id) = false}) (fun i => ⟨78, [(7, intA (i.1 : Int)), (4, .c (.sc (.bool false))), (3, .ptr 1 0), (2, .ptr 0 0), (0, namedA p), (1, namedA q)], [.cells ((namedC p).map .c), .cells ((namedC q).map .c)], [], []⟩) (fun i => p.deps.length - i.1) ⟨0, by simp⟩ 9000 ⟨[0, 1], Wk.of rfl (by simp) (by rw [h0]; simp [fixB]) (by simp [wkT, okA, wkP, cloE, Vam.look, sig, ]) (by simp [wkBs, setBx, nthB, wkBx, wkL, okA, wkP, cloE, sig, ]) (by simp) (by simp)⟩ (by simp [h0]) ?_
  rintro ⟨i, hi, hall⟩
  simp only [evX, reduceIte, reduceCtorEq, Nat.reduceLT, Nat.reduceAdd, Nat.reduceEqDiff, Nat.reduceBEq, Nat.reduceLeDiff, Nat.reduceMul, ttL, tyL, ht]
  ((first | refine SelF.byN (fun hb => ?_) (fun hb => ?_) | refine SelF.by (fun hb => ?_) (fun hb => ?_)) <;> simp only [hb, evX, reduceIte, reduceCtorEq, Nat.reduceLT, Nat.reduceAdd, Nat.reduceEqDiff, Nat.reduceBEq, Nat.reduceLeDiff, Nat.reduceMul, ttL, tyL, ht])
  · simp only [decide_eq_true_eq] at hb
    have hlt : i < p.deps.length := by omega
    refine IdxR.nat hE 9000 hlt rfl ?_
    simp only [evX, reduceIte, reduceCtorEq, Nat.reduceLT, Nat.reduceAdd, Nat.reduceEqDiff, Nat.reduceBEq, Nat.reduceLeDiff, Nat.reduceMul, ttL, tyL, ht]
    (refine HardOp.eqI hE 9000 rfl (hP ▸ eqT) rfl ?_ <;> simp only [evX, reduceIte, reduceCtorEq, Nat.reduceLT, Nat.reduceAdd, Nat.reduceEqDiff, Nat.reduceBEq, Nat.reduceLeDiff, Nat.reduceMul, ttL, tyL, ht])
    refine ⟨by kernel_rfl, ?_⟩
    have hc : (p.deps[i].who == q.id.who && p.deps[i].no == q.id.no) = idEq p.deps[i] q.id := rfl
    simp only [hc, evX, reduceIte, reduceCtorEq, Nat.reduceLT, Nat.reduceAdd, Nat.reduceEqDiff, Nat.reduceBEq, Nat.reduceLeDiff, Nat.reduceMul, ttL, tyL, ht]
    ((first | refine SelF.byN (fun hb => ?_) (fun hb => ?_) | refine SelF.by (fun hb => ?_) (fun hb => ?_)) <;> simp only [hb, evX, reduceIte, reduceCtorEq, Nat.reduceLT, Nat.reduceAdd, Nat.reduceEqDiff, Nat.reduceBEq, Nat.reduceLeDiff, Nat.reduceMul, ttL, tyL, ht])
    · exact RetQ.bool (.inr rfl) rfl rfl
    · refine ⟨⟨i + 1, by omega, by rw [any_take hlt, hall, hb]; rfl⟩, [0, 1], Wk.of rfl (by simp) (by rw [h0]; simp [fixB]) (by simp [wkT, okA, wkP, cloE, Vam.look, sig, wrapN i (by omega)]) (by simp [wkBs, setBx, nthB, wkBx, wkL, okA, wkP, cloE, sig, wrapN i (by omega)]) (by simp) (by simp), by simp only; omega⟩
  · have hi' : p.deps.length ≤ i := by simpa using hb
    rw [List.take_of_length_le hi'] at hall
    have kk := passNT_keep kp kq
    (refine CallG.ok hE 9000 (hP ▸ ok_tradePass p q kp kq) rfl rfl ?_ <;> simp only [evX, reduceIte, reduceCtorEq, Nat.reduceLT, Nat.reduceAdd, Nat.reduceEqDiff, Nat.reduceBEq, Nat.reduceLeDiff, Nat.reduceMul, ttL, tyL, ht])
    (refine StG.by hE ht 9000 rfl ?_ <;> simp only [evX, reduceIte, reduceCtorEq, Nat.reduceLT, Nat.reduceAdd, Nat.reduceEqDiff, Nat.reduceBEq, Nat.reduceLeDiff, Nat.reduceMul, ttL, tyL, ht])
    (refine StG.by hE ht 9000 rfl ?_ <;> simp only [evX, reduceIte, reduceCtorEq, Nat.reduceLT, Nat.reduceAdd, Nat.reduceEqDiff, Nat.reduceBEq, Nat.reduceLeDiff, Nat.reduceMul, ttL, tyL, ht])
    cases hs : (passNT p q).2.2
    · have c0 : (((0 : Nat) : Int) == 0) = true := rfl
      have e0 : namedZ.l = [] := rfl
      simp only [passNT_none hs, evX, reduceIte, reduceCtorEq, Nat.reduceLT, Nat.reduceAdd, Nat.reduceEqDiff, Nat.reduceBEq, Nat.reduceLeDiff, Nat.reduceMul, ttL, tyL, ht, Bool.not_false]
      simp only [e0, List.map_nil, List.length_nil, c0, evX, reduceIte, reduceCtorEq, Nat.reduceLT, Nat.reduceAdd, Nat.reduceEqDiff, Nat.reduceBEq, Nat.reduceLeDiff, Nat.reduceMul, ttL, tyL, ht]
      exact RetQ.bool (.inr rfl) rfl rfl
    · have hp := passNT_some hs
      have e := passNT_of (passN_back hp hall (few_atD f1) (few_atD f2) (by omega) (by omega))
      simp only [evX, reduceIte, reduceCtorEq, Nat.reduceLT, Nat.reduceAdd, Nat.reduceEqDiff, Nat.reduceBEq, Nat.reduceLeDiff, Nat.reduceMul, ttL, tyL, ht, Bool.not_true]
      (refine CallG.ok hE 9000 (hP ▸ ok_tradePass (passNT p q).1 (passNT p q).2.1 kk.1 kk.2) rfl rfl ?_ <;> simp only [evX, reduceIte, reduceCtorEq, Nat.reduceLT, Nat.reduceAdd, Nat.reduceEqDiff, Nat.reduceBEq, Nat.reduceLeDiff, Nat.reduceMul, ttL, tyL, ht])
      simp only [e, evX, reduceIte, reduceCtorEq, Nat.reduceLT, Nat.reduceAdd, Nat.reduceEqDiff, Nat.reduceBEq, Nat.reduceLeDiff, Nat.reduceMul, ttL, tyL, ht]
      (refine StG.by hE ht 9000 rfl ?_ <;> simp only [evX, reduceIte, reduceCtorEq, Nat.reduceLT, Nat.reduceAdd, Nat.reduceEqDiff, Nat.reduceBEq, Nat.reduceLeDiff, Nat.reduceMul, ttL, tyL, ht])
      (refine StG.by hE ht 9000 rfl ?_ <;> simp only [evX, reduceIte, reduceCtorEq, Nat.reduceLT, Nat.reduceAdd, Nat.reduceEqDiff, Nat.reduceBEq, Nat.reduceLeDiff, Nat.reduceMul, ttL, tyL, ht])
      (refine CallG.ok hE 9000 (hP ▸ ok_patchSame p p bp) rfl rfl ?_ <;> simp only [evX, reduceIte, reduceCtorEq, Nat.reduceLT, Nat.reduceAdd, Nat.reduceEqDiff, Nat.reduceBEq, Nat.reduceLeDiff, Nat.reduceMul, ttL, tyL, ht])
      simp only [sameN_refl, evX, reduceIte, reduceCtorEq, Nat.reduceLT, Nat.reduceAdd, Nat.reduceEqDiff, Nat.reduceBEq, Nat.reduceLeDiff, Nat.reduceMul, ttL, tyL, ht]
      (refine CallG.ok hE 9000 (hP ▸ ok_patchSame q q bq) rfl rfl ?_ <;> simp only [evX, reduceIte, reduceCtorEq, Nat.reduceLT, Nat.reduceAdd, Nat.reduceEqDiff, Nat.reduceBEq, Nat.reduceLeDiff, Nat.reduceMul, ttL, tyL, ht])
      exact RetQ.bool (.inr rfl) rfl (sameN_refl q)
theorem law_TradeDeps (p : Named) (bp : namedB p) (rp : namedR p) (q : Named) (bq : namedB q) (rq : namedR q) : Ok Try.prog 9 [namedA p, namedA q] (.v (boolA true)) := by
  have kp : okN p := ⟨bp, rp⟩
  have kq : okN q := ⟨bq, rq⟩
  (refine Ok.code hT hM (fn := Try.f9) rfl rfl rfl _ _ rfl rfl (Nat.le_of_ble_eq_true rfl) fun E hE hP ht h0 hrd => ?_; refine Go.run hE 9000 ?_; simp only [Try.f9, evX, reduceIte, reduceCtorEq, Nat.reduceLT, Nat.reduceAdd, Nat.reduceEqDiff, Nat.reduceBEq, Nat.reduceLeDiff, Nat.reduceMul, ttL, tyL, ht])
  (refine CallG.ok hE 9000 (hP ▸ ok_awake15) rfl rfl ?_ <;> simp only [evX, reduceIte, reduceCtorEq, Nat.reduceLT, Nat.reduceAdd, Nat.reduceEqDiff, Nat.reduceBEq, Nat.reduceLeDiff, Nat.reduceMul, ttL, tyL, ht])
  (refine CallG.ok hE 9000 (hP ▸ ok_fewN [p, q] 2 ⟨by simp [Big], by simpa using ⟨bp, bq⟩⟩) rfl rfl ?_ <;> simp only [evX, reduceIte, reduceCtorEq, Nat.reduceLT, Nat.reduceAdd, Nat.reduceEqDiff, Nat.reduceBEq, Nat.reduceLeDiff, Nat.reduceMul, ttL, tyL, ht])
  cases h1 : fewN [p, q] 2 <;> simp only [evX, reduceIte, reduceCtorEq, Nat.reduceLT, Nat.reduceAdd, Nat.reduceEqDiff, Nat.reduceBEq, Nat.reduceLeDiff, Nat.reduceMul, ttL, tyL, ht, Bool.not_false, Bool.not_true]
  · exact RetQ.bool (.inr rfl) rfl rfl
  obtain ⟨f1, f2, d1, d2⟩ := fewN2 h1
  have l1 := few_len f1
  have l2 := few_len f2
  (refine StG.by hE ht 9000 rfl ?_ <;> simp only [evX, reduceIte, reduceCtorEq, Nat.reduceLT, Nat.reduceAdd, Nat.reduceEqDiff, Nat.reduceBEq, Nat.reduceLeDiff, Nat.reduceMul, ttL, tyL, ht])
  refine AppG.by hE 9000 rfl rfl (by simp [rowLen]) (by simp; omega) ?_
  simp only [evX, reduceIte, reduceCtorEq, Nat.reduceLT, Nat.reduceAdd, Nat.reduceEqDiff, Nat.reduceBEq, Nat.reduceLeDiff, Nat.reduceMul, ttL, tyL, ht]
  refine AppG.by hE 9000 rfl rfl (by simp [rowLen]) (by simp; omega) ?_
  simp only [evX, reduceIte, reduceCtorEq, Nat.reduceLT, Nat.reduceAdd, Nat.reduceEqDiff, Nat.reduceBEq, Nat.reduceLeDiff, Nat.reduceMul, ttL, tyL, ht]
  refine StG.byD hE ht 9000 rfl (by kernel_rfl) ?_
  simp only [evX, reduceIte, reduceCtorEq, Nat.reduceLT, Nat.reduceAdd, Nat.reduceEqDiff, Nat.reduceBEq, Nat.reduceLeDiff, Nat.reduceMul, ttL, tyL, ht]
  (refine StG.by hE ht 9000 rfl ?_ <;> simp only [evX, reduceIte, reduceCtorEq, Nat.reduceLT, Nat.reduceAdd, Nat.reduceEqDiff, Nat.reduceBEq, Nat.reduceLeDiff, Nat.reduceMul, ttL, tyL, ht])
  (refine StG.by hE ht 9000 rfl ?_ <;> simp only [evX, reduceIte, reduceCtorEq, Nat.reduceLT, Nat.reduceAdd, Nat.reduceEqDiff, Nat.reduceBEq, Nat.reduceLeDiff, Nat.reduceMul, ttL, tyL, ht])
  refine HardOp.frzC hE 9000 3 2 6 rfl rfl rfl rfl ?_
  simp only [evX, reduceIte, reduceCtorEq, Nat.reduceLT, Nat.reduceAdd, Nat.reduceEqDiff, Nat.reduceBEq, Nat.reduceLeDiff, Nat.reduceMul, ttL, tyL, ht]
  rw [show idsC q.deps ++ [[.sc (.int .i64 p.id.who), .sc (.int .i64 p.id.no)]] = idsC (q.deps ++ [p.id]) by simp]
  have k1 : okN ⟨q.id, q.deps ++ [p.id], q.text, q.l⟩ := ⟨⟨by simp only [List.length_append, List.length_singleton, Big]; omega, bq.2⟩, ⟨rq.1, fun x hx => by
    rcases List.mem_append.1 hx with h | h
    · exact rq.2.1 x h
    · simp only [List.mem_singleton] at h; subst h; exact rp.1, rq.2.2⟩⟩
  have k2 : okN ⟨q.id, [], q.text, q.l⟩ := ⟨⟨by simp [Big], bq.2⟩, ⟨rq.1, by simp, rq.2.2⟩⟩
  have e1 : passNT p ⟨q.id, q.deps ++ [p.id], q.text, q.l⟩ = (namedZ, namedZ, false) := by
    rw [passNT, passN_deps (by simp [idEq_refl])]
  (refine CallG.ok hE 9000 (hP ▸ ok_tradePass p ⟨q.id, q.deps ++ [p.id], q.text, q.l⟩ kp k1) rfl rfl ?_ <;> simp only [evX, reduceIte, reduceCtorEq, Nat.reduceLT, Nat.reduceAdd, Nat.reduceEqDiff, Nat.reduceBEq, Nat.reduceLeDiff, Nat.reduceMul, ttL, tyL, ht])
  simp only [e1, evX, reduceIte, reduceCtorEq, Nat.reduceLT, Nat.reduceAdd, Nat.reduceEqDiff, Nat.reduceBEq, Nat.reduceLeDiff, Nat.reduceMul, ttL, tyL, ht]
  (refine StG.by hE ht 9000 rfl ?_ <;> simp only [evX, reduceIte, reduceCtorEq, Nat.reduceLT, Nat.reduceAdd, Nat.reduceEqDiff, Nat.reduceBEq, Nat.reduceLeDiff, Nat.reduceMul, ttL, tyL, ht])
  (refine StG.by hE ht 9000 rfl ?_ <;> simp only [evX, reduceIte, reduceCtorEq, Nat.reduceLT, Nat.reduceAdd, Nat.reduceEqDiff, Nat.reduceBEq, Nat.reduceLeDiff, Nat.reduceMul, ttL, tyL, ht])
  (refine CallG.ok hE 9000 (hP ▸ ok_tradePass p ⟨q.id, [], q.text, q.l⟩ kp k2) rfl rfl ?_ <;> simp only [evX, reduceIte, reduceCtorEq, Nat.reduceLT, Nat.reduceAdd, Nat.reduceEqDiff, Nat.reduceBEq, Nat.reduceLeDiff, Nat.reduceMul, ttL, tyL, ht])
  (refine StG.by hE ht 9000 rfl ?_ <;> simp only [evX, reduceIte, reduceCtorEq, Nat.reduceLT, Nat.reduceAdd, Nat.reduceEqDiff, Nat.reduceBEq, Nat.reduceLeDiff, Nat.reduceMul, ttL, tyL, ht])
  (refine StG.by hE ht 9000 rfl ?_ <;> simp only [evX, reduceIte, reduceCtorEq, Nat.reduceLT, Nat.reduceAdd, Nat.reduceEqDiff, Nat.reduceBEq, Nat.reduceLeDiff, Nat.reduceMul, ttL, tyL, ht])
  (refine CallG.ok hE 9000 (hP ▸ ok_tradePass p q kp kq) rfl rfl ?_ <;> simp only [evX, reduceIte, reduceCtorEq, Nat.reduceLT, Nat.reduceAdd, Nat.reduceEqDiff, Nat.reduceBEq, Nat.reduceLeDiff, Nat.reduceMul, ttL, tyL, ht])
  (refine StG.by hE ht 9000 rfl ?_ <;> simp only [evX, reduceIte, reduceCtorEq, Nat.reduceLT, Nat.reduceAdd, Nat.reduceEqDiff, Nat.reduceBEq, Nat.reduceLeDiff, Nat.reduceMul, ttL, tyL, ht])
  (refine StG.by hE ht 9000 rfl ?_ <;> simp only [evX, reduceIte, reduceCtorEq, Nat.reduceLT, Nat.reduceAdd, Nat.reduceEqDiff, Nat.reduceBEq, Nat.reduceLeDiff, Nat.reduceMul, ttL, tyL, ht])
  have e3 : (passNT p q).2.2 = true → (passNT p ⟨q.id, [], q.text, q.l⟩).2.2 = true := fun h => by
    obtain ⟨h1, f, m, h2, h3⟩ := passN_iff.1 (passNT_some h)
    have h5 : passN p ⟨q.id, [], q.text, q.l⟩ = some (withL ⟨q.id, [], q.text, q.l⟩ f, withL p m) := passN_iff.2 ⟨by simp, f, m, h2, rfl, rfl⟩
    rw [passNT_of h5]
  cases h3 : (passNT p q).2.2 <;> cases h4 : (passNT p ⟨q.id, [], q.text, q.l⟩).2.2 <;> simp only [evX, reduceIte, reduceCtorEq, Nat.reduceLT, Nat.reduceAdd, Nat.reduceEqDiff, Nat.reduceBEq, Nat.reduceLeDiff, Nat.reduceMul, ttL, tyL, ht, Bool.not_false, Bool.not_true]
  all_goals first | exact RetQ.bool (.inr rfl) rfl rfl | (rw [h3, h4] at e3; simp at e3)
end Go.Proofs.Ytmijejoddoolpaa
