/- Strings' lists and hunks: what the functions upon them tell. -/
import Derived.Test.YtfjlopdofjbfgaaGreatTt
import Derived.Test.YtfjlopdofjbfgaaGreatG10
namespace Go.Proofs.YtfjlopdofjbfgaaGreat
open Go.Vam Go.Qm
set_option linter.unusedVariables false
set_option linter.unusedSimpArgs false
set_option maxRecDepth 8000

theorem hM : Tryz.prog.follows .mixedOrders = true := by kernel_rfl

theorem ok_refSame (a b : List Str) (hl : a.length < 9223372036854775807) : Ok Tryz.prog 23 [strsA a, strsA b] (.v (boolA (strsEq a b))) := by
  (refine Ok.code hT hM (fn := Tryz.f23) rfl rfl rfl _ _ rfl rfl (Nat.le_of_ble_eq_true rfl) fun E hE hP ht h0 hrd => ?_; refine Go.run hE 9000 ?_; simp only [Tryz.f23, evX, reduceIte, reduceCtorEq, Nat.reduceLT, Nat.reduceAdd, Nat.reduceEqDiff, Nat.reduceBEq, Nat.reduceLeDiff, Nat.reduceMul, ttL, tyL, ht])
  ((first | refine SelF.byN (fun hb => ?_) (fun hb => ?_) | refine SelF.by (fun hb => ?_) (fun hb => ?_)) <;> simp only [hb, evX, reduceIte, reduceCtorEq, Nat.reduceLT, Nat.reduceAdd, Nat.reduceEqDiff, Nat.reduceBEq, Nat.reduceLeDiff, Nat.reduceMul, ttL, tyL, ht])
  · exact RetQ.bool (.inr rfl) rfl (all2_ne (by simp at hb; omega)).symm
  · have hlen : a.length = b.length := by simp at hb; omega
    refine Loop.by hE (ι := {i : Nat // i ≤ a.length ∧ strsEq (a.take i) (b.take i) = true}) (fun i => ⟨26, [(0, strsA a), (1, strsA b), (4, boolA false), (5, intA i.1)], [], [], []⟩) (fun i => a.length - i.1) ⟨0, by simp [all2]⟩ 9000 ⟨[], Wk.of rfl (by simp) (by rw [h0]; trivial) (by simp [wkT, okA, wkP, cloE, Vam.look]) (by simp [wkBs]) (by simp) (by simp)⟩ (by simp [h0]) ?_
    rintro ⟨i, hi, hall⟩
    simp only [evX, reduceIte, reduceCtorEq, Nat.reduceLT, Nat.reduceAdd, Nat.reduceEqDiff, Nat.reduceBEq, Nat.reduceLeDiff, Nat.reduceMul, ttL, tyL, ht]
    ((first | refine SelF.byN (fun hb => ?_) (fun hb => ?_) | refine SelF.by (fun hb => ?_) (fun hb => ?_)) <;> simp only [hb, evX, reduceIte, reduceCtorEq, Nat.reduceLT, Nat.reduceAdd, Nat.reduceEqDiff, Nat.reduceBEq, Nat.reduceLeDiff, Nat.reduceMul, ttL, tyL, ht])
    · simp only [decide_eq_true_eq] at hb
      have hlt : i < a.length := by omega
      have hlt2 : i < b.length := by omega
      refine IdxR.nat hE 9000 hlt rfl ?_
      simp only [evX, reduceIte, reduceCtorEq, Nat.reduceLT, Nat.reduceAdd, Nat.reduceEqDiff, Nat.reduceBEq, Nat.reduceLeDiff, Nat.reduceMul, ttL, tyL, ht]
      refine IdxR.nat hE 9000 hlt2 rfl ?_
      simp only [evX, reduceIte, reduceCtorEq, Nat.reduceLT, Nat.reduceAdd, Nat.reduceEqDiff, Nat.reduceBEq, Nat.reduceLeDiff, Nat.reduceMul, ttL, tyL, ht]
      refine ⟨by kernel_rfl, ?_⟩
      ((first | refine SelF.byN (fun hb => ?_) (fun hb => ?_) | refine SelF.by (fun hb => ?_) (fun hb => ?_)) <;> simp only [hb, evX, reduceIte, reduceCtorEq, Nat.reduceLT, Nat.reduceAdd, Nat.reduceEqDiff, Nat.reduceBEq, Nat.reduceLeDiff, Nat.reduceMul, ttL, tyL, ht])
      · exact RetQ.bool (.inr rfl) rfl (all2_at hlt hlt2 (by simpa [str_beq] using hb)).symm
      · refine ⟨⟨i + 1, by omega, (all2_take hlt hlt2).trans (by rw [show all2 _ _ _ = true from hall]; simpa [str_beq] using hb)⟩, [], Wk.of rfl (by simp) (by rw [h0]; trivial) (by simp [wkT, okA, wkP, cloE, Vam.look, wrapN i (by omega)]) (by simp [wkBs]) (by simp) (by simp), by simp only; omega⟩
    · exact RetQ.bool (.inr rfl) rfl (all2_full hi (by simpa using hb) hlen hall).symm

theorem ok_slicesEqualStr (a b : List Str) (hl : a.length < 9223372036854775807) : Ok Tryz.prog 68 [strsA a, strsA b] (.v (boolA (strsEq a b))) := by
  (refine Ok.code hT hM (fn := Tryz.f68) rfl rfl rfl _ _ rfl rfl (Nat.le_of_ble_eq_true rfl) fun E hE hP ht h0 hrd => ?_; refine Go.run hE 9000 ?_; simp only [Tryz.f68, evX, reduceIte, reduceCtorEq, Nat.reduceLT, Nat.reduceAdd, Nat.reduceEqDiff, Nat.reduceBEq, Nat.reduceLeDiff, Nat.reduceMul, ttL, tyL, ht])
  ((first | refine SelF.byN (fun hb => ?_) (fun hb => ?_) | refine SelF.by (fun hb => ?_) (fun hb => ?_)) <;> simp only [hb, evX, reduceIte, reduceCtorEq, Nat.reduceLT, Nat.reduceAdd, Nat.reduceEqDiff, Nat.reduceBEq, Nat.reduceLeDiff, Nat.reduceMul, ttL, tyL, ht])
  · exact RetQ.bool (.inr rfl) rfl (all2_ne (by simp at hb; omega)).symm
  · have hlen : a.length = b.length := by simp at hb; omega
    refine Loop.by hE (ι := {i : Nat // i ≤ a.length ∧ strsEq (a.take i) (b.take i) = true}) (fun i => ⟨26, [(0, strsA a), (1, strsA b), (4, boolA false), (12, intA a.length), (13, intA i.1)], [], [], []⟩) (fun i => a.length - i.1) ⟨0, by simp [all2]⟩ 9000 ⟨[], Wk.of rfl (by simp) (by rw [h0]; trivial) (by simp [wkT, okA, wkP, cloE, Vam.look]) (by simp [wkBs]) (by simp) (by simp)⟩ (by simp [h0]) ?_
    rintro ⟨i, hi, hall⟩
    simp only [evX, reduceIte, reduceCtorEq, Nat.reduceLT, Nat.reduceAdd, Nat.reduceEqDiff, Nat.reduceBEq, Nat.reduceLeDiff, Nat.reduceMul, ttL, tyL, ht]
    ((first | refine SelF.byN (fun hb => ?_) (fun hb => ?_) | refine SelF.by (fun hb => ?_) (fun hb => ?_)) <;> simp only [hb, evX, reduceIte, reduceCtorEq, Nat.reduceLT, Nat.reduceAdd, Nat.reduceEqDiff, Nat.reduceBEq, Nat.reduceLeDiff, Nat.reduceMul, ttL, tyL, ht])
    · simp only [decide_eq_true_eq] at hb
      have hlt : i < a.length := by omega
      have hlt2 : i < b.length := by omega
      refine IdxR.nat hE 9000 hlt rfl ?_
      simp only [evX, reduceIte, reduceCtorEq, Nat.reduceLT, Nat.reduceAdd, Nat.reduceEqDiff, Nat.reduceBEq, Nat.reduceLeDiff, Nat.reduceMul, ttL, tyL, ht]
      refine IdxR.nat hE 9000 hlt2 rfl ?_
      simp only [evX, reduceIte, reduceCtorEq, Nat.reduceLT, Nat.reduceAdd, Nat.reduceEqDiff, Nat.reduceBEq, Nat.reduceLeDiff, Nat.reduceMul, ttL, tyL, ht]
      refine ⟨by kernel_rfl, ?_⟩
      ((first | refine SelF.byN (fun hb => ?_) (fun hb => ?_) | refine SelF.by (fun hb => ?_) (fun hb => ?_)) <;> simp only [hb, evX, reduceIte, reduceCtorEq, Nat.reduceLT, Nat.reduceAdd, Nat.reduceEqDiff, Nat.reduceBEq, Nat.reduceLeDiff, Nat.reduceMul, ttL, tyL, ht])
      · exact RetQ.bool (.inr rfl) rfl (all2_at hlt hlt2 (by simpa [str_beq] using hb)).symm
      · refine ⟨⟨i + 1, by omega, (all2_take hlt hlt2).trans (by rw [show all2 _ _ _ = true from hall]; simpa [str_beq] using hb)⟩, [], Wk.of rfl (by simp) (by rw [h0]; trivial) (by simp [wkT, okA, wkP, cloE, Vam.look, wrapN i (by omega)]) (by simp [wkBs]) (by simp) (by simp), by simp only; omega⟩
    · exact RetQ.bool (.inr rfl) rfl (all2_full hi (by simpa using hb) hlen hall).symm

theorem ok_CloneStr (a : List Str) (hl : a.length * 16 ≤ 140737488355328) : Ok Tryz.prog 66 [strsA a] (.v (strsA a)) := by
  (refine Ok.code hT hM (fn := Tryz.f66) rfl rfl rfl _ _ rfl rfl (Nat.le_of_ble_eq_true rfl) fun E hE hP ht h0 hrd => ?_; refine Go.run hE 9000 ?_; simp only [Tryz.f66, evX, reduceIte, reduceCtorEq, Nat.reduceLT, Nat.reduceAdd, Nat.reduceEqDiff, Nat.reduceBEq, Nat.reduceLeDiff, Nat.reduceMul, ttL, tyL, ht])
  refine IsNilG.sl hE 9000 fun b hb0 => ?_
  simp only [evX, reduceIte, reduceCtorEq, Nat.reduceLT, Nat.reduceAdd, Nat.reduceEqDiff, Nat.reduceBEq, Nat.reduceLeDiff, Nat.reduceMul, ttL, tyL, ht]
  ((first | refine SelF.byN (fun hb => ?_) (fun hb => ?_) | refine SelF.by (fun hb => ?_) (fun hb => ?_)) <;> simp only [hb, evX, reduceIte, reduceCtorEq, Nat.reduceLT, Nat.reduceAdd, Nat.reduceEqDiff, Nat.reduceBEq, Nat.reduceLeDiff, Nat.reduceMul, ttL, tyL, ht])
  · have ha : a = [] := by have := hb0 hb; simpa using this
    subst ha
    exact RetQ.val (.inr rfl) rfl rfl rfl
  · refine AppG.by hE 9000 rfl rfl (rowLen_strs a) (by simpa using hl) ?_
    simp only [evX, reduceIte, reduceCtorEq, Nat.reduceLT, Nat.reduceAdd, Nat.reduceEqDiff, Nat.reduceBEq, Nat.reduceLeDiff, Nat.reduceMul, ttL, tyL, ht]
    exact RetQ.ownV (.inr rfl) rfl rfl rfl rfl

theorem ok_hunkTurn (h : Hunk) (h1 : h.old.length * 16 ≤ 140737488355328) (h2 : h.new.length * 16 ≤ 140737488355328) : Ok Tryz.prog 45 [hunkA h] (.v (hunkA (turnH h))) := by
  (refine Ok.code hT hM (fn := Tryz.f45) rfl rfl rfl _ _ rfl rfl (Nat.le_of_ble_eq_true rfl) fun E hE hP ht h0 hrd => ?_; refine Go.run hE 9000 ?_; simp only [Tryz.f45, evX, reduceIte, reduceCtorEq, Nat.reduceLT, Nat.reduceAdd, Nat.reduceEqDiff, Nat.reduceBEq, Nat.reduceLeDiff, Nat.reduceMul, ttL, tyL, ht])
  (refine CallG.ok hE 9000 (hP ▸ ok_CloneStr h.new h2) rfl rfl ?_ <;> simp only [evX, reduceIte, reduceCtorEq, Nat.reduceLT, Nat.reduceAdd, Nat.reduceEqDiff, Nat.reduceBEq, Nat.reduceLeDiff, Nat.reduceMul, ttL, tyL, ht])
  (refine CallG.ok hE 9000 (hP ▸ ok_CloneStr h.old h1) rfl rfl ?_ <;> simp only [evX, reduceIte, reduceCtorEq, Nat.reduceLT, Nat.reduceAdd, Nat.reduceEqDiff, Nat.reduceBEq, Nat.reduceLeDiff, Nat.reduceMul, ttL, tyL, ht])
  (refine StG.byD hE ht 9000 rfl (by kernel_rfl) ?_ <;> simp only [evX, reduceIte, reduceCtorEq, Nat.reduceLT, Nat.reduceAdd, Nat.reduceEqDiff, Nat.reduceBEq, Nat.reduceLeDiff, Nat.reduceMul, ttL, tyL, ht])
  exact RetQ.cell (.inr rfl) rfl rfl rfl rfl rfl rfl rfl rfl rfl
theorem ok_refHunkTurn (h : Hunk) : Ok Tryz.prog 46 [hunkA h] (.v (hunkA (turnH h))) := by
  (refine Ok.code hT hM (fn := Tryz.f46) rfl rfl rfl _ _ rfl rfl (Nat.le_of_ble_eq_true rfl) fun E hE hP ht h0 hrd => ?_; refine Go.run hE 9000 ?_; simp only [Tryz.f46, evX, reduceIte, reduceCtorEq, Nat.reduceLT, Nat.reduceAdd, Nat.reduceEqDiff, Nat.reduceBEq, Nat.reduceLeDiff, Nat.reduceMul, ttL, tyL, ht])
  (refine StG.by hE ht 9000 rfl ?_ <;> simp only [evX, reduceIte, reduceCtorEq, Nat.reduceLT, Nat.reduceAdd, Nat.reduceEqDiff, Nat.reduceBEq, Nat.reduceLeDiff, Nat.reduceMul, ttL, tyL, ht])
  exact RetQ.cell (.inr rfl) rfl rfl rfl rfl rfl rfl rfl rfl rfl
theorem ok_refHunkSame (a b : Hunk) (h1 : a.old.length < 9223372036854775807) (h2 : a.new.length < 9223372036854775807) : Ok Tryz.prog 43 [hunkA a, hunkA b] (.v (boolA (hunkEq a b))) := by
  (refine Ok.code hT hM (fn := Tryz.f43) rfl rfl rfl _ _ rfl rfl (Nat.le_of_ble_eq_true rfl) fun E hE hP ht h0 hrd => ?_; refine Go.run hE 9000 ?_; simp only [Tryz.f43, evX, reduceIte, reduceCtorEq, Nat.reduceLT, Nat.reduceAdd, Nat.reduceEqDiff, Nat.reduceBEq, Nat.reduceLeDiff, Nat.reduceMul, ttL, tyL, ht])
  (refine CallG.ok hE 9000 (hP ▸ ok_refSame a.old b.old h1) rfl rfl ?_ <;> simp only [evX, reduceIte, reduceCtorEq, Nat.reduceLT, Nat.reduceAdd, Nat.reduceEqDiff, Nat.reduceBEq, Nat.reduceLeDiff, Nat.reduceMul, ttL, tyL, ht])
  (refine CallG.ok hE 9000 (hP ▸ ok_refSame a.new b.new h2) rfl rfl ?_ <;> simp only [evX, reduceIte, reduceCtorEq, Nat.reduceLT, Nat.reduceAdd, Nat.reduceEqDiff, Nat.reduceBEq, Nat.reduceLeDiff, Nat.reduceMul, ttL, tyL, ht])
  repeat' ((first | refine SelF.byN (fun hb => ?_) (fun hb => ?_) | refine SelF.by (fun hb => ?_) (fun hb => ?_)) <;> simp only [hb, evX, reduceIte, reduceCtorEq, Nat.reduceLT, Nat.reduceAdd, Nat.reduceEqDiff, Nat.reduceBEq, Nat.reduceLeDiff, Nat.reduceMul, ttL, tyL, ht])
  all_goals exact RetQ.bool (.inr rfl) rfl (by simp_all [hunkEq])
theorem ok_hunkSame (a b : Hunk) (h1 : a.old.length < 9223372036854775807) (h2 : a.new.length < 9223372036854775807) : Ok Tryz.prog 51 [hunkA a, hunkA b] (.v (boolA (hunkEq a b))) := by
  (refine Ok.code hT hM (fn := Tryz.f51) rfl rfl rfl _ _ rfl rfl (Nat.le_of_ble_eq_true rfl) fun E hE hP ht h0 hrd => ?_; refine Go.run hE 9000 ?_; simp only [Tryz.f51, evX, reduceIte, reduceCtorEq, Nat.reduceLT, Nat.reduceAdd, Nat.reduceEqDiff, Nat.reduceBEq, Nat.reduceLeDiff, Nat.reduceMul, ttL, tyL, ht])
  repeat' (first | (refine CallG.ok hE 9000 (hP ▸ ok_slicesEqualStr a.old b.old h1) rfl rfl ?_ <;> simp only [evX, reduceIte, reduceCtorEq, Nat.reduceLT, Nat.reduceAdd, Nat.reduceEqDiff, Nat.reduceBEq, Nat.reduceLeDiff, Nat.reduceMul, ttL, tyL, ht]) | (refine CallG.ok hE 9000 (hP ▸ ok_slicesEqualStr a.new b.new h2) rfl rfl ?_ <;> simp only [evX, reduceIte, reduceCtorEq, Nat.reduceLT, Nat.reduceAdd, Nat.reduceEqDiff, Nat.reduceBEq, Nat.reduceLeDiff, Nat.reduceMul, ttL, tyL, ht]) | ((first | refine SelF.byN (fun hb => ?_) (fun hb => ?_) | refine SelF.by (fun hb => ?_) (fun hb => ?_)) <;> simp only [hb, evX, reduceIte, reduceCtorEq, Nat.reduceLT, Nat.reduceAdd, Nat.reduceEqDiff, Nat.reduceBEq, Nat.reduceLeDiff, Nat.reduceMul, ttL, tyL, ht]))
  all_goals exact RetQ.bool (.inr rfl) rfl (by simp_all [hunkEq])
end Go.Proofs.YtfjlopdofjbfgaaGreat
