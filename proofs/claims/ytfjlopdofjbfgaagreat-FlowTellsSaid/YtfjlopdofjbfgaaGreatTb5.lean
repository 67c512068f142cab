/- Trees: the document's functions upon them; which trees may be. -/
import Derived.Test.YtfjlopdofjbfgaaGreatTb2
import Derived.Test.YtfjlopdofjbfgaaGreatTa2
import Derived.Test.YtfjlopdofjbfgaaGreatG10
namespace Go.Proofs.YtfjlopdofjbfgaaGreat
open Go.Vam Go.Qm
set_option linter.unusedVariables false
set_option linter.unusedSimpArgs false
set_option maxRecDepth 8000

theorem ok_rwhere (t : List File) (n : Str) (hl : t.length < 9223372036854775807) : Ok Tryz.prog 64 [treeA t, strA n] (.v (intA (idxI (isN n) t))) := by
  (refine Ok.code hT hM (fn := Tryz.f64) rfl rfl rfl _ _ rfl rfl (Nat.le_of_ble_eq_true rfl) fun E hE hP ht h0 hrd => ?_; refine Go.run hE 9000 ?_; simp only [Tryz.f64, evX, reduceIte, reduceCtorEq, Nat.reduceLT, Nat.reduceAdd, Nat.reduceEqDiff, Nat.reduceBEq, Nat.reduceLeDiff, Nat.reduceMul, ttL, tyL, ht])
  refine Loop.by hE (ι := {i : Nat // i ≤ t.length ∧ (t.take i).any (isN n) = false}) (fun i => ⟨20, [(0, treeA t), (1, strA n), (5, intA i.1)], [], [], []⟩) (fun i => t.length - i.1) ⟨0, by simp⟩ 9000 ⟨[], Wk.of rfl (by simp) (by rw [h0]; simp [fixB]) (by simp [wkT, okA, wkP, cloE, Vam.look, sig, ]) (by simp [wkBs, setBx, nthB, wkBx, wkL, okA, wkP, cloE, sig, ]) (by simp) (by simp)⟩ (by simp [h0]) ?_
  rintro ⟨i, hi, hall⟩
  simp only [evX, reduceIte, reduceCtorEq, Nat.reduceLT, Nat.reduceAdd, Nat.reduceEqDiff, Nat.reduceBEq, Nat.reduceLeDiff, Nat.reduceMul, ttL, tyL, ht]
  ((first | refine SelF.byN (fun hb => ?_) (fun hb => ?_) | refine SelF.by (fun hb => ?_) (fun hb => ?_)) <;> simp only [hb, evX, reduceIte, reduceCtorEq, Nat.reduceLT, Nat.reduceAdd, Nat.reduceEqDiff, Nat.reduceBEq, Nat.reduceLeDiff, Nat.reduceMul, ttL, tyL, ht])
  · simp only [decide_eq_true_eq] at hb
    have hlt : i < t.length := by omega
    refine IdxR.nat hE 9000 hlt rfl ?_
    simp only [evX, reduceIte, reduceCtorEq, Nat.reduceLT, Nat.reduceAdd, Nat.reduceEqDiff, Nat.reduceBEq, Nat.reduceLeDiff, Nat.reduceMul, ttL, tyL, ht]
    ((first | refine SelF.byN (fun hb => ?_) (fun hb => ?_) | refine SelF.by (fun hb => ?_) (fun hb => ?_)) <;> simp only [hb, evX, reduceIte, reduceCtorEq, Nat.reduceLT, Nat.reduceAdd, Nat.reduceEqDiff, Nat.reduceBEq, Nat.reduceLeDiff, Nat.reduceMul, ttL, tyL, ht])
    · exact RetQ.c (.inr rfl) rfl (by rw [idxI_at hlt hall (by rw [isN, ← str_beq]; exact hb)])
    · refine ⟨⟨i + 1, by omega, by rw [any_take hlt, hall, isN, ← str_beq, hb]; rfl⟩, [], Wk.of rfl (by simp) (by rw [h0]; simp [fixB]) (by simp [wkT, okA, wkP, cloE, Vam.look, sig, wrapN i (by omega)]) (by simp [wkBs, setBx, nthB, wkBx, wkL, okA, wkP, cloE, sig, wrapN i (by omega)]) (by simp) (by simp), by simp only; omega⟩
  · exact RetQ.c (.inr rfl) rfl (by rw [idxI_none hi (by simpa using hb) hall])
theorem rwhere_no {t : List File} {n : Str} (hl : t.length < 9223372036854775807) (h : t.any (isN n) = false) : Ok Tryz.prog 64 [treeA t, strA n] (.v (intA (-1))) := by
  have := ok_rwhere t n hl
  rwa [show idxI (isN n) t = -1 by simp [idxI, h]] at this
theorem rwhere_at {t : List File} {n : Str} (hl : t.length < 9223372036854775807) (h : t.any (isN n) = true) : Ok Tryz.prog 64 [treeA t, strA n] (.v (intA (t.findIdx (isN n)))) := by
  have := ok_rwhere t n hl
  rwa [show idxI (isN n) t = t.findIdx (isN n) by simp [idxI, h]] at this
theorem findIdx_in {t : List File} {n : Str} (h : t.any (isN n) = true) : t.findIdx (isN n) < t.length := by have := findIdx_lt (t := t) (f := isN n); rw [h] at this; simpa using this
theorem ok_rGet (t : List File) (n : Str) (hB : treeB t) : Ok Tryz.prog 39 [treeA t, strA n] (.v (.tup [strsA (treeGet t n).1, boolA (treeGet t n).2])) := by
  have hlt : t.length * 40 ≤ 140737488351232 := hB.1
  cases ha : t.any (isN n) with
  | false =>
    (refine Ok.code hT hM (fn := Tryz.f39) rfl rfl rfl _ _ rfl rfl (Nat.le_of_ble_eq_true rfl) fun E hE hP ht h0 hrd => ?_; refine Go.run hE 9000 ?_; simp only [Tryz.f39, evX, reduceIte, reduceCtorEq, Nat.reduceLT, Nat.reduceAdd, Nat.reduceEqDiff, Nat.reduceBEq, Nat.reduceLeDiff, Nat.reduceMul, ttL, tyL, ht])
    (refine CallG.ok hE 9000 (hP ▸ rwhere_no (by omega) ha) rfl rfl ?_ <;> simp only [evX, reduceIte, reduceCtorEq, Nat.reduceLT, Nat.reduceAdd, Nat.reduceEqDiff, Nat.reduceBEq, Nat.reduceLeDiff, Nat.reduceMul, ttL, tyL, ht])
    ((first | refine SelF.byN (fun hb => ?_) (fun hb => ?_) | refine SelF.by (fun hb => ?_) (fun hb => ?_)) <;> simp only [hb, evX, reduceIte, reduceCtorEq, Nat.reduceLT, Nat.reduceAdd, Nat.reduceEqDiff, Nat.reduceBEq, Nat.reduceLeDiff, Nat.reduceMul, ttL, tyL, ht])
    · refine RetQ.two (.inr rfl) rfl rfl rfl ?_
      rw [treeGet_none ha]; rfl
    · exact absurd hb (by decide)
  | true =>
    have hi := findIdx_in ha
    (refine Ok.code hT hM (fn := Tryz.f39) rfl rfl rfl _ _ rfl rfl (Nat.le_of_ble_eq_true rfl) fun E hE hP ht h0 hrd => ?_; refine Go.run hE 9000 ?_; simp only [Tryz.f39, evX, reduceIte, reduceCtorEq, Nat.reduceLT, Nat.reduceAdd, Nat.reduceEqDiff, Nat.reduceBEq, Nat.reduceLeDiff, Nat.reduceMul, ttL, tyL, ht])
    (refine CallG.ok hE 9000 (hP ▸ rwhere_at (by omega) ha) rfl rfl ?_ <;> simp only [evX, reduceIte, reduceCtorEq, Nat.reduceLT, Nat.reduceAdd, Nat.reduceEqDiff, Nat.reduceBEq, Nat.reduceLeDiff, Nat.reduceMul, ttL, tyL, ht])
    ((first | refine SelF.byN (fun hb => ?_) (fun hb => ?_) | refine SelF.by (fun hb => ?_) (fun hb => ?_)) <;> simp only [hb, evX, reduceIte, reduceCtorEq, Nat.reduceLT, Nat.reduceAdd, Nat.reduceEqDiff, Nat.reduceBEq, Nat.reduceLeDiff, Nat.reduceMul, ttL, tyL, ht])
    · exact absurd hb (by simp)
    · refine IdxR.nat hE 9000 hi rfl ?_
      simp only [evX, reduceIte, reduceCtorEq, Nat.reduceLT, Nat.reduceAdd, Nat.reduceEqDiff, Nat.reduceBEq, Nat.reduceLeDiff, Nat.reduceMul, ttL, tyL, ht]
      refine AppG.by hE 9000 rfl rfl (rowLen_strs _) (by have := (hB.2 _ (List.getElem_mem hi)).len; simp only [Big] at this; simp; omega) ?_
      simp only [evX, reduceIte, reduceCtorEq, Nat.reduceLT, Nat.reduceAdd, Nat.reduceEqDiff, Nat.reduceBEq, Nat.reduceLeDiff, Nat.reduceMul, ttL, tyL, ht]
      refine RetQ.two (.inr rfl) rfl rfl rfl ?_
      rw [treeGet_at hi]; rfl
theorem ok_rPut (t : List File) (n : Str) (l : List Str) (hB : treeB t) (hl : l.length * 16 ≤ 140737488355328) : Ok Tryz.prog 40 [treeA t, strA n, strsA l] (.v (treeA (treePut t n l))) := by
  have hlt : t.length * 40 ≤ 140737488351232 := hB.1
  cases ha : t.any (isN n) with
  | true =>
    have hi := findIdx_in ha
    (refine Ok.code hT hM (fn := Tryz.f40) rfl rfl rfl _ _ rfl rfl (Nat.le_of_ble_eq_true rfl) fun E hE hP ht h0 hrd => ?_; refine Go.run hE 9000 ?_; simp only [Tryz.f40, evX, reduceIte, reduceCtorEq, Nat.reduceLT, Nat.reduceAdd, Nat.reduceEqDiff, Nat.reduceBEq, Nat.reduceLeDiff, Nat.reduceMul, ttL, tyL, ht])
    (refine CallG.ok hE 9000 (hP ▸ rwhere_at (by omega) ha) rfl rfl ?_ <;> simp only [evX, reduceIte, reduceCtorEq, Nat.reduceLT, Nat.reduceAdd, Nat.reduceEqDiff, Nat.reduceBEq, Nat.reduceLeDiff, Nat.reduceMul, ttL, tyL, ht])
    refine AppG.by hE 9000 rfl rfl (rowLen_strs l) (by simpa using hl) ?_
    simp only [evX, reduceIte, reduceCtorEq, Nat.reduceLT, Nat.reduceAdd, Nat.reduceEqDiff, Nat.reduceBEq, Nat.reduceLeDiff, Nat.reduceMul, ttL, tyL, ht]
    refine HardOp.frz hE 9000 18 rfl rfl rfl ?_
    simp only [evX, reduceIte, reduceCtorEq, Nat.reduceLT, Nat.reduceAdd, Nat.reduceEqDiff, Nat.reduceBEq, Nat.reduceLeDiff, Nat.reduceMul, ttL, tyL, ht]
    (refine StG.by hE ht 9000 rfl ?_ <;> simp only [evX, reduceIte, reduceCtorEq, Nat.reduceLT, Nat.reduceAdd, Nat.reduceEqDiff, Nat.reduceBEq, Nat.reduceLeDiff, Nat.reduceMul, ttL, tyL, ht])
    ((first | refine SelF.byN (fun hb => ?_) (fun hb => ?_) | refine SelF.by (fun hb => ?_) (fun hb => ?_)) <;> simp only [hb, evX, reduceIte, reduceCtorEq, Nat.reduceLT, Nat.reduceAdd, Nat.reduceEqDiff, Nat.reduceBEq, Nat.reduceLeDiff, Nat.reduceMul, ttL, tyL, ht])
    · refine AppG.by hE 9000 rfl rfl (rowLen_tree t) (by simp; omega) ?_
      simp only [evX, reduceIte, reduceCtorEq, Nat.reduceLT, Nat.reduceAdd, Nat.reduceEqDiff, Nat.reduceBEq, Nat.reduceLeDiff, Nat.reduceMul, ttL, tyL, ht]
      refine IdxO.by hE 9000 (by omega) (by simpa using hi) ?_
      simp only [evX, reduceIte, reduceCtorEq, Nat.reduceLT, Nat.reduceAdd, Nat.reduceEqDiff, Nat.reduceBEq, Nat.reduceLeDiff, Nat.reduceMul, ttL, tyL, ht]
      refine StG.byO hE ht (j := t.findIdx (isN n)) (row := fileC t[t.findIdx (isN n)]) 9000 rfl rfl rfl rfl rfl (by simp [hi]) rfl (by simp) (by simp [tyL]) ?_
      simp only [evX, reduceIte, reduceCtorEq, Nat.reduceLT, Nat.reduceAdd, Nat.reduceEqDiff, Nat.reduceBEq, Nat.reduceLeDiff, Nat.reduceMul, ttL, tyL, ht]
      refine RetQ.ownV (.inr rfl) rfl rfl rfl ?_
      rw [treePut, if_pos ha]
      simp [List.map_set]
    · exact absurd hb (by simp)
  | false =>
    (refine Ok.code hT hM (fn := Tryz.f40) rfl rfl rfl _ _ rfl rfl (Nat.le_of_ble_eq_true rfl) fun E hE hP ht h0 hrd => ?_; refine Go.run hE 9000 ?_; simp only [Tryz.f40, evX, reduceIte, reduceCtorEq, Nat.reduceLT, Nat.reduceAdd, Nat.reduceEqDiff, Nat.reduceBEq, Nat.reduceLeDiff, Nat.reduceMul, ttL, tyL, ht])
    (refine CallG.ok hE 9000 (hP ▸ rwhere_no (by omega) ha) rfl rfl ?_ <;> simp only [evX, reduceIte, reduceCtorEq, Nat.reduceLT, Nat.reduceAdd, Nat.reduceEqDiff, Nat.reduceBEq, Nat.reduceLeDiff, Nat.reduceMul, ttL, tyL, ht])
    refine AppG.by hE 9000 rfl rfl (rowLen_strs l) (by simpa using hl) ?_
    simp only [evX, reduceIte, reduceCtorEq, Nat.reduceLT, Nat.reduceAdd, Nat.reduceEqDiff, Nat.reduceBEq, Nat.reduceLeDiff, Nat.reduceMul, ttL, tyL, ht]
    refine HardOp.frz hE 9000 18 rfl rfl rfl ?_
    simp only [evX, reduceIte, reduceCtorEq, Nat.reduceLT, Nat.reduceAdd, Nat.reduceEqDiff, Nat.reduceBEq, Nat.reduceLeDiff, Nat.reduceMul, ttL, tyL, ht]
    (refine StG.by hE ht 9000 rfl ?_ <;> simp only [evX, reduceIte, reduceCtorEq, Nat.reduceLT, Nat.reduceAdd, Nat.reduceEqDiff, Nat.reduceBEq, Nat.reduceLeDiff, Nat.reduceMul, ttL, tyL, ht])
    ((first | refine SelF.byN (fun hb => ?_) (fun hb => ?_) | refine SelF.by (fun hb => ?_) (fun hb => ?_)) <;> simp only [hb, evX, reduceIte, reduceCtorEq, Nat.reduceLT, Nat.reduceAdd, Nat.reduceEqDiff, Nat.reduceBEq, Nat.reduceLeDiff, Nat.reduceMul, ttL, tyL, ht])
    · exact absurd hb (by decide)
    refine Go.nilT 10 45 2 rfl ?_
    refine Loop.by hE (ι := {i : Nat // i ≤ t.length}) (fun i => ⟨64, [(0, treeA t), (1, strA n), (8, .ptr 0 0), (10, .own 1), (11, boolA ((t.take i.1).any (gtN n))), (12, intA i.1)], [.cells [strA n, strsA l], .rows 45 2 (treeC (putI t n l i.1))], [], []⟩) (fun i => t.length - i.1) ⟨0, by simp⟩ 9000 ⟨[1, 2], Wk.of rfl (by simp) (by rw [h0]; simp [fixB]) (by simp [wkT, okA, wkP, cloE, Vam.look, sig, putI_zero]) (by simp [wkBs, setBx, nthB, wkBx, wkL, okA, wkP, cloE, sig, putI_zero]) (by simp) (by simp)⟩ (by simp [h0]) ?_
    rintro ⟨i, hi⟩
    simp only [evX, reduceIte, reduceCtorEq, Nat.reduceLT, Nat.reduceAdd, Nat.reduceEqDiff, Nat.reduceBEq, Nat.reduceLeDiff, Nat.reduceMul, ttL, tyL, ht]
    ((first | refine SelF.byN (fun hb => ?_) (fun hb => ?_) | refine SelF.by (fun hb => ?_) (fun hb => ?_)) <;> simp only [hb, evX, reduceIte, reduceCtorEq, Nat.reduceLT, Nat.reduceAdd, Nat.reduceEqDiff, Nat.reduceBEq, Nat.reduceLeDiff, Nat.reduceMul, ttL, tyL, ht])
    · simp only [decide_eq_true_eq] at hb
      have hlt : i < t.length := by omega
      have hplen := putI_len t n l i hi
      cases hd : (t.take i).any (gtN n) <;> simp only [hd, evX, reduceIte, reduceCtorEq, Nat.reduceLT, Nat.reduceAdd, Nat.reduceEqDiff, Nat.reduceBEq, Nat.reduceLeDiff, Nat.reduceMul, ttL, tyL, ht] <;> rw [hd] at hplen <;> simp only [if_true, if_false, Bool.false_eq_true] at hplen
      · refine IdxR.nat hE 9000 hlt rfl ?_
        simp only [evX, reduceIte, reduceCtorEq, Nat.reduceLT, Nat.reduceAdd, Nat.reduceEqDiff, Nat.reduceBEq, Nat.reduceLeDiff, Nat.reduceMul, ttL, tyL, ht]
        ((first | refine SelF.byN (fun hb => ?_) (fun hb => ?_) | refine SelF.by (fun hb => ?_) (fun hb => ?_)) <;> simp only [hb, evX, reduceIte, reduceCtorEq, Nat.reduceLT, Nat.reduceAdd, Nat.reduceEqDiff, Nat.reduceBEq, Nat.reduceLeDiff, Nat.reduceMul, ttL, tyL, ht])
        · refine AppG.by hE 9000 rfl rfl (by simp [rowLen]) (by simp; omega) ?_
          simp only [evX, reduceIte, reduceCtorEq, Nat.reduceLT, Nat.reduceAdd, Nat.reduceEqDiff, Nat.reduceBEq, Nat.reduceLeDiff, Nat.reduceMul, ttL, tyL, ht]
          refine IdxR.nat hE 9000 hlt rfl ?_
          simp only [evX, reduceIte, reduceCtorEq, Nat.reduceLT, Nat.reduceAdd, Nat.reduceEqDiff, Nat.reduceBEq, Nat.reduceLeDiff, Nat.reduceMul, ttL, tyL, ht]
          refine AppG.by hE 9000 rfl rfl (by simp [rowLen]) (by simp; omega) ?_
          simp only [evX, reduceIte, reduceCtorEq, Nat.reduceLT, Nat.reduceAdd, Nat.reduceEqDiff, Nat.reduceBEq, Nat.reduceLeDiff, Nat.reduceMul, ttL, tyL, ht]
          have hg : gtN n t[i] = true := by unfold gtN strLe; rw [hb]; rfl
          refine ⟨⟨i + 1, by omega⟩, [0, 5], Wk.of rfl (by simp) (by rw [h0]; simp [fixB]) (by simp [wkT, okA, wkP, cloE, Vam.look, sig, wrapN i (by omega), any_take hlt, hd, hg, putI_gt hlt hd hg]) (by simp [wkBs, setBx, nthB, wkBx, wkL, okA, wkP, cloE, sig, wrapN i (by omega), any_take hlt, hd, hg, putI_gt hlt hd hg]) (by simp) (by simp), by simp only; omega⟩
        · refine IdxR.nat hE 9000 hlt rfl ?_
          simp only [evX, reduceIte, reduceCtorEq, Nat.reduceLT, Nat.reduceAdd, Nat.reduceEqDiff, Nat.reduceBEq, Nat.reduceLeDiff, Nat.reduceMul, ttL, tyL, ht]
          refine AppG.by hE 9000 rfl rfl (by simp [rowLen]) (by simp; omega) ?_
          simp only [evX, reduceIte, reduceCtorEq, Nat.reduceLT, Nat.reduceAdd, Nat.reduceEqDiff, Nat.reduceBEq, Nat.reduceLeDiff, Nat.reduceMul, ttL, tyL, ht]
          have hg : gtN n t[i] = false := by unfold gtN strLe; rw [hb]; rfl
          refine ⟨⟨i + 1, by omega⟩, [0, 3], Wk.of rfl (by simp) (by rw [h0]; simp [fixB]) (by simp [wkT, okA, wkP, cloE, Vam.look, sig, wrapN i (by omega), any_take hlt, hd, hg, putI_le hlt hd hg]) (by simp [wkBs, setBx, nthB, wkBx, wkL, okA, wkP, cloE, sig, wrapN i (by omega), any_take hlt, hd, hg, putI_le hlt hd hg]) (by simp) (by simp), by simp only; omega⟩
      · refine IdxR.nat hE 9000 hlt rfl ?_
        simp only [evX, reduceIte, reduceCtorEq, Nat.reduceLT, Nat.reduceAdd, Nat.reduceEqDiff, Nat.reduceBEq, Nat.reduceLeDiff, Nat.reduceMul, ttL, tyL, ht]
        refine AppG.by hE 9000 rfl rfl (by simp [rowLen]) (by simp; omega) ?_
        simp only [evX, reduceIte, reduceCtorEq, Nat.reduceLT, Nat.reduceAdd, Nat.reduceEqDiff, Nat.reduceBEq, Nat.reduceLeDiff, Nat.reduceMul, ttL, tyL, ht]
        refine ⟨⟨i + 1, by omega⟩, [0, 3], Wk.of rfl (by simp) (by rw [h0]; simp [fixB]) (by simp [wkT, okA, wkP, cloE, Vam.look, sig, wrapN i (by omega), any_take hlt, hd, putI_on hlt hd]) (by simp [wkBs, setBx, nthB, wkBx, wkL, okA, wkP, cloE, sig, wrapN i (by omega), any_take hlt, hd, putI_on hlt hd]) (by simp) (by simp), by simp only; omega⟩
    · have : i = t.length := by simp at hb; omega
      subst this
      have hplen := putI_len t n l t.length (Nat.le_refl _)
      cases hd : (t.take t.length).any (gtN n) <;> simp only [hd, evX, reduceIte, reduceCtorEq, Nat.reduceLT, Nat.reduceAdd, Nat.reduceEqDiff, Nat.reduceBEq, Nat.reduceLeDiff, Nat.reduceMul, ttL, tyL, ht] <;> rw [hd] at hplen <;> simp only [if_true, if_false, Bool.false_eq_true] at hplen <;> rw [List.take_length] at hd
      · refine AppG.by hE 9000 rfl rfl (by simp [rowLen]) (by simp; omega) ?_
        simp only [evX, reduceIte, reduceCtorEq, Nat.reduceLT, Nat.reduceAdd, Nat.reduceEqDiff, Nat.reduceBEq, Nat.reduceLeDiff, Nat.reduceMul, ttL, tyL, ht]
        refine RetQ.ownV (.inr rfl) rfl rfl rfl ?_
        rw [← putI_last ha hd]
        simp
      · refine RetQ.ownV (.inr rfl) rfl rfl rfl ?_
        rw [← putI_end ha hd]
theorem ok_rDel (t : List File) (n : Str) (hB : treeB t) : Ok Tryz.prog 41 [treeA t, strA n] (.v (treeA (treeDel t n))) := by
  have hlt : t.length * 40 ≤ 140737488351232 := hB.1
  have hk : ∃ k' : Int, Ok Tryz.prog 64 [treeA t, strA n] (.v (intA k')) ∧ ∀ i : Nat, i < t.length → ((i : Int) = k' ↔ i = t.findIdx (isN n)) := by
    cases ha : t.any (isN n) with
    | true => exact ⟨_, rwhere_at (by omega) ha, fun i h => by omega⟩
    | false =>
      refine ⟨_, rwhere_no (by omega) ha, fun i h => ?_⟩
      have := findIdx_lt (t := t) (f := isN n)
      rw [ha, decide_eq_false_iff_not] at this
      omega
  obtain ⟨k', hw, hk⟩ := hk
  (refine Ok.code hT hM (fn := Tryz.f41) rfl rfl rfl _ _ rfl rfl (Nat.le_of_ble_eq_true rfl) fun E hE hP ht h0 hrd => ?_; refine Go.run hE 9000 ?_; simp only [Tryz.f41, evX, reduceIte, reduceCtorEq, Nat.reduceLT, Nat.reduceAdd, Nat.reduceEqDiff, Nat.reduceBEq, Nat.reduceLeDiff, Nat.reduceMul, ttL, tyL, ht])
  (refine CallG.ok hE 9000 (hP ▸ hw) rfl rfl ?_ <;> simp only [evX, reduceIte, reduceCtorEq, Nat.reduceLT, Nat.reduceAdd, Nat.reduceEqDiff, Nat.reduceBEq, Nat.reduceLeDiff, Nat.reduceMul, ttL, tyL, ht])
  refine Go.nilT 6 45 2 rfl ?_
  refine Loop.by hE (ι := {i : Nat // i ≤ t.length}) (fun i => ⟨28, [(0, treeA t), (5, intA k'), (6, .own 0), (7, intA i.1)], [.rows 45 2 (treeC ((t.take i.1).eraseIdx (t.findIdx (isN n))))], [], []⟩) (fun i => t.length - i.1) ⟨0, by simp⟩ 9000 ⟨[0], Wk.of rfl (by simp) (by rw [h0]; simp [fixB]) (by simp [wkT, okA, wkP, cloE, Vam.look, sig, ]) (by simp [wkBs, setBx, nthB, wkBx, wkL, okA, wkP, cloE, sig, ]) (by simp) (by simp)⟩ (by simp [h0]) ?_
  rintro ⟨i, hi⟩
  simp only [evX, reduceIte, reduceCtorEq, Nat.reduceLT, Nat.reduceAdd, Nat.reduceEqDiff, Nat.reduceBEq, Nat.reduceLeDiff, Nat.reduceMul, ttL, tyL, ht]
  ((first | refine SelF.byN (fun hb => ?_) (fun hb => ?_) | refine SelF.by (fun hb => ?_) (fun hb => ?_)) <;> simp only [hb, evX, reduceIte, reduceCtorEq, Nat.reduceLT, Nat.reduceAdd, Nat.reduceEqDiff, Nat.reduceBEq, Nat.reduceLeDiff, Nat.reduceMul, ttL, tyL, ht])
  · simp only [decide_eq_true_eq] at hb
    have hlt : i < t.length := by omega
    have hs := del_step (k := t.findIdx (isN n)) hlt
    have hle : ((t.take i).eraseIdx (t.findIdx (isN n))).length ≤ i := by rw [List.length_eraseIdx]; split <;> simp <;> omega
    ((first | refine SelF.byN (fun hb => ?_) (fun hb => ?_) | refine SelF.by (fun hb => ?_) (fun hb => ?_)) <;> simp only [hb, evX, reduceIte, reduceCtorEq, Nat.reduceLT, Nat.reduceAdd, Nat.reduceEqDiff, Nat.reduceBEq, Nat.reduceLeDiff, Nat.reduceMul, ttL, tyL, ht])
    · have hne : i ≠ t.findIdx (isN n) := fun e => by have := (hk i hlt).2 e; simp [this] at hb
      rw [if_neg hne] at hs
      refine IdxR.nat hE 9000 hlt rfl ?_
      simp only [evX, reduceIte, reduceCtorEq, Nat.reduceLT, Nat.reduceAdd, Nat.reduceEqDiff, Nat.reduceBEq, Nat.reduceLeDiff, Nat.reduceMul, ttL, tyL, ht]
      refine AppG.by hE 9000 rfl rfl (by simp [rowLen]) (by simp; omega) ?_
      simp only [evX, reduceIte, reduceCtorEq, Nat.reduceLT, Nat.reduceAdd, Nat.reduceEqDiff, Nat.reduceBEq, Nat.reduceLeDiff, Nat.reduceMul, ttL, tyL, ht]
      refine ⟨⟨i + 1, by omega⟩, [2], Wk.of rfl (by simp) (by rw [h0]; simp [fixB]) (by simp [wkT, okA, wkP, cloE, Vam.look, sig, wrapN i (by omega), hs]) (by simp [wkBs, setBx, nthB, wkBx, wkL, okA, wkP, cloE, sig, wrapN i (by omega), hs]) (by simp) (by simp), by simp only; omega⟩
    · have he : i = t.findIdx (isN n) := (hk i hlt).1 (by simpa using hb)
      rw [if_pos he, List.append_nil] at hs
      refine ⟨⟨i + 1, by omega⟩, [0], Wk.of rfl (by simp) (by rw [h0]; simp [fixB]) (by simp [wkT, okA, wkP, cloE, Vam.look, sig, wrapN i (by omega), hs]) (by simp [wkBs, setBx, nthB, wkBx, wkL, okA, wkP, cloE, sig, wrapN i (by omega), hs]) (by simp) (by simp), by simp only; omega⟩
  · have : i = t.length := by simp at hb; omega
    subst this
    refine RetQ.ownV (.inr rfl) rfl rfl rfl ?_
    rw [List.take_length, treeDel_erase]
theorem ok_rTreeSame (a b : List File) (hB : treeB a) : Ok Tryz.prog 10 [treeA a, treeA b] (.v (boolA (treeEq a b))) := by
  have hl : a.length * 40 ≤ 140737488351232 := hB.1
  unfold treeEq
  (refine Ok.code hT hM (fn := Tryz.f10) rfl rfl rfl _ _ rfl rfl (Nat.le_of_ble_eq_true rfl) fun E hE hP ht h0 hrd => ?_; refine Go.run hE 9000 ?_; simp only [Tryz.f10, evX, reduceIte, reduceCtorEq, Nat.reduceLT, Nat.reduceAdd, Nat.reduceEqDiff, Nat.reduceBEq, Nat.reduceLeDiff, Nat.reduceMul, ttL, tyL, ht])
  ((first | refine SelF.byN (fun hb => ?_) (fun hb => ?_) | refine SelF.by (fun hb => ?_) (fun hb => ?_)) <;> simp only [hb, evX, reduceIte, reduceCtorEq, Nat.reduceLT, Nat.reduceAdd, Nat.reduceEqDiff, Nat.reduceBEq, Nat.reduceLeDiff, Nat.reduceMul, ttL, tyL, ht])
  · exact RetQ.bool (.inr rfl) rfl (all2_ne (by simp at hb; omega)).symm
  · have hlen : a.length = b.length := by simp at hb; omega
    refine Loop.by hE (ι := {i : Nat // i ≤ a.length ∧ all2 fileEq (a.take i) (b.take i) = true}) (fun i => ⟨44, [(0, treeA a), (1, treeA b), (5, intA i.1)], [], [], []⟩) (fun i => a.length - i.1) ⟨0, by simp [all2]⟩ 9000 ⟨[], Wk.of rfl (by simp) (by rw [h0]; simp [fixB]) (by simp [wkT, okA, wkP, cloE, Vam.look, sig, ]) (by simp [wkBs, setBx, nthB, wkBx, wkL, okA, wkP, cloE, sig, ]) (by simp) (by simp)⟩ (by simp [h0]) ?_
    rintro ⟨i, hi, hall⟩
    simp only [evX, reduceIte, reduceCtorEq, Nat.reduceLT, Nat.reduceAdd, Nat.reduceEqDiff, Nat.reduceBEq, Nat.reduceLeDiff, Nat.reduceMul, ttL, tyL, ht]
    ((first | refine SelF.byN (fun hb => ?_) (fun hb => ?_) | refine SelF.by (fun hb => ?_) (fun hb => ?_)) <;> simp only [hb, evX, reduceIte, reduceCtorEq, Nat.reduceLT, Nat.reduceAdd, Nat.reduceEqDiff, Nat.reduceBEq, Nat.reduceLeDiff, Nat.reduceMul, ttL, tyL, ht])
    · simp only [decide_eq_true_eq] at hb
      have hlt : i < a.length := by omega
      have hlt2 : i < b.length := by omega
      refine IdxR.nat hE 9000 hlt rfl ?_
      simp only [evX, reduceIte, reduceCtorEq, Nat.reduceLT, Nat.reduceAdd, Nat.reduceEqDiff, Nat.reduceBEq, Nat.reduceLeDiff, Nat.reduceMul, ttL, tyL, ht]
      refine IdxR.nat hE 9000 hlt2 rfl ?_
      simp only [evX, reduceIte, reduceCtorEq, Nat.reduceLT, Nat.reduceAdd, Nat.reduceEqDiff, Nat.reduceBEq, Nat.reduceLeDiff, Nat.reduceMul, ttL, tyL, ht]
      (refine CallG.ok hE 9000 (hP ▸ ok_refSame a[i].lines b[i].lines (by have := (hB.2 _ (List.getElem_mem hlt)).len; simp only [Big] at this; omega)) rfl rfl ?_ <;> simp only [evX, reduceIte, reduceCtorEq, Nat.reduceLT, Nat.reduceAdd, Nat.reduceEqDiff, Nat.reduceBEq, Nat.reduceLeDiff, Nat.reduceMul, ttL, tyL, ht])
      refine ⟨by kernel_rfl, ?_⟩
      ((first | refine SelF.byN (fun hb => ?_) (fun hb => ?_) | refine SelF.by (fun hb => ?_) (fun hb => ?_)) <;> simp only [hb, evX, reduceIte, reduceCtorEq, Nat.reduceLT, Nat.reduceAdd, Nat.reduceEqDiff, Nat.reduceBEq, Nat.reduceLeDiff, Nat.reduceMul, ttL, tyL, ht])
      · refine IdxR.nat hE 9000 hlt rfl ?_
        simp only [evX, reduceIte, reduceCtorEq, Nat.reduceLT, Nat.reduceAdd, Nat.reduceEqDiff, Nat.reduceBEq, Nat.reduceLeDiff, Nat.reduceMul, ttL, tyL, ht]
        refine IdxR.nat hE 9000 hlt2 rfl ?_
        simp only [evX, reduceIte, reduceCtorEq, Nat.reduceLT, Nat.reduceAdd, Nat.reduceEqDiff, Nat.reduceBEq, Nat.reduceLeDiff, Nat.reduceMul, ttL, tyL, ht]
        refine ⟨by kernel_rfl, ?_⟩
        ((first | refine SelF.byN (fun hb => ?_) (fun hb => ?_) | refine SelF.by (fun hb => ?_) (fun hb => ?_)) <;> simp only [hb, evX, reduceIte, reduceCtorEq, Nat.reduceLT, Nat.reduceAdd, Nat.reduceEqDiff, Nat.reduceBEq, Nat.reduceLeDiff, Nat.reduceMul, ttL, tyL, ht])
        · exact RetQ.bool (.inr rfl) rfl (all2_at hlt hlt2 (by simp_all [fileEq, str_beq])).symm
        · refine ⟨⟨i + 1, by omega, by rw [all2_take hlt hlt2, hall]; simp_all [fileEq, str_beq]⟩, [], Wk.of rfl (by simp) (by rw [h0]; simp [fixB]) (by simp [wkT, okA, wkP, cloE, Vam.look, sig, wrapN i (by omega)]) (by simp [wkBs, setBx, nthB, wkBx, wkL, okA, wkP, cloE, sig, wrapN i (by omega)]) (by simp) (by simp), by simp only; omega⟩
      · refine ⟨by kernel_rfl, ?_⟩
        repeat' ((first | refine SelF.byN (fun hb => ?_) (fun hb => ?_) | refine SelF.by (fun hb => ?_) (fun hb => ?_)) <;> simp only [hb, evX, reduceIte, reduceCtorEq, Nat.reduceLT, Nat.reduceAdd, Nat.reduceEqDiff, Nat.reduceBEq, Nat.reduceLeDiff, Nat.reduceMul, ttL, tyL, ht])
        exact RetQ.bool (.inr rfl) rfl (all2_at hlt hlt2 (by simp_all [fileEq, str_beq])).symm
    · exact RetQ.bool (.inr rfl) rfl (all2_full hi (by simpa using hb) hlen hall).symm
theorem mapIdx_at {t : List File} {i : Nat} (h : i < t.length) (hf : fileMay t i t[i] = false) : treeMay t = false := by
  unfold treeMay
  have : (t.mapIdx (fileMay t)).all id = false := by
    rw [List.all_eq_false]
    exact ⟨_, List.mem_mapIdx.2 ⟨i, h, rfl⟩, by simp [hf]⟩
  rw [this]; rfl
theorem may_step {t : List File} {i : Nat} {hlt : i < t.length} (hall : ∀ (j : Nat) (hj : j < t.length), j < i → fileMay t j t[j] = true) (h : fileMay t i t[i] = true) : ∀ (j : Nat) (hj : j < t.length), j < i + 1 → fileMay t j t[j] = true := fun j hj hji => by
  rcases Nat.lt_succ_iff_lt_or_eq.1 hji with h' | h'
  · exact hall j hj h'
  · subst h'
    exact h
theorem treeMay_all {t : List File} (h : ∀ (i : Nat) (hi : i < t.length), fileMay t i t[i] = true) : treeMay t = decide ((t.length : Int) ≤ 30) := by
  unfold treeMay
  have : (t.mapIdx (fileMay t)).all id = true := by
    rw [List.all_eq_true]
    intro x hx
    obtain ⟨i, hi, rfl⟩ := List.mem_mapIdx.1 hx
    exact h i hi
  rw [this, Bool.true_and]
end Go.Proofs.YtfjlopdofjbfgaaGreat
