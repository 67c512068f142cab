/- Trees: put, taken away, got, compared. -/
import Derived.Test.YtfjlopdofjbfgaaGreatTb3
import Derived.Test.YtfjlopdofjbfgaaGreatTa2
namespace Go.Proofs.YtfjlopdofjbfgaaGreat
open Go.Vam Go.Qm
set_option linter.unusedVariables false
set_option linter.unusedSimpArgs false
set_option maxRecDepth 8000

theorem ok_treePut (t : List File) (n : Str) (l : List Str) (hB : treeB t) (hl : l.length * 16 ≤ 140737488355328) : Ok Tryz.prog 79 [treeA t, strA n, strsA l] (.v (treeA (treePut t n l))) := by
  have hlt : t.length * 40 ≤ 140737488351232 := hB.1
  (refine Ok.code hT hM (fn := Tryz.f79) rfl rfl rfl _ _ rfl rfl (Nat.le_of_ble_eq_true rfl) fun E hE hP ht h0 hrd => ?_; refine Go.run hE 9000 ?_; simp only [Tryz.f79, evX, reduceIte, reduceCtorEq, Nat.reduceLT, Nat.reduceAdd, Nat.reduceEqDiff, Nat.reduceBEq, Nat.reduceLeDiff, Nat.reduceMul, ttL, tyL, ht])
  (refine CallG.ok hE 9000 (hP ▸ ok_all t hB) rfl rfl ?_ <;> simp only [evX, reduceIte, reduceCtorEq, Nat.reduceLT, Nat.reduceAdd, Nat.reduceEqDiff, Nat.reduceBEq, Nat.reduceLeDiff, Nat.reduceMul, ttL, tyL, ht])
  (refine CallG.rd hE hP 9000 (ok_where t n (by omega)) rfl rfl rfl ?_ <;> simp only [evX, reduceIte, reduceCtorEq, Nat.reduceLT, Nat.reduceAdd, Nat.reduceEqDiff, Nat.reduceBEq, Nat.reduceLeDiff, Nat.reduceMul, ttL, tyL, ht])
  simp only [List.length_map, findIdx_lt]
  cases ha : t.any (isN n) <;> simp only [evX, reduceIte, reduceCtorEq, Nat.reduceLT, Nat.reduceAdd, Nat.reduceEqDiff, Nat.reduceBEq, Nat.reduceLeDiff, Nat.reduceMul, ttL, tyL, ht]
  · (refine CallG.rd hE hP 9000 (ok_at t 98 [[.sc (.string n)]] (gtN n) (by omega) (fun f _ => ok_put1 n f)) rfl rfl rfl ?_ <;> simp only [evX, reduceIte, reduceCtorEq, Nat.reduceLT, Nat.reduceAdd, Nat.reduceEqDiff, Nat.reduceBEq, Nat.reduceLeDiff, Nat.reduceMul, ttL, tyL, ht])
    (refine CallG.ok hE 9000 (hP ▸ ok_fileOwn n l hl) rfl rfl ?_ <;> simp only [evX, reduceIte, reduceCtorEq, Nat.reduceLT, Nat.reduceAdd, Nat.reduceEqDiff, Nat.reduceBEq, Nat.reduceLeDiff, Nat.reduceMul, ttL, tyL, ht])
    refine CallG.ins hE hP 9000 insOkFile rfl rfl rfl rfl rfl (by decide) (by simp [List.findIdx_le_length]) (by simp; omega) ?_
    simp only [evX, reduceIte, reduceCtorEq, Nat.reduceLT, Nat.reduceAdd, Nat.reduceEqDiff, Nat.reduceBEq, Nat.reduceLeDiff, Nat.reduceMul, ttL, tyL, ht]
    refine ⟨by kernel_rfl, ?_⟩
    refine RetQ.ownV (.inr rfl) rfl rfl rfl ?_
    rw [treePut, if_neg (by rw [ha]; simp)]
    simp [List.map_take, List.map_drop]
  · have hi : t.findIdx (isN n) < t.length := by have := findIdx_lt (t := t) (f := isN n); rw [ha] at this; simpa using this
    (refine CallG.ok hE 9000 (hP ▸ ok_fileOwn n l hl) rfl rfl ?_ <;> simp only [evX, reduceIte, reduceCtorEq, Nat.reduceLT, Nat.reduceAdd, Nat.reduceEqDiff, Nat.reduceBEq, Nat.reduceLeDiff, Nat.reduceMul, ttL, tyL, ht])
    refine IdxO.by hE 9000 (by omega) (by simpa using hi) ?_
    simp only [evX, reduceIte, reduceCtorEq, Nat.reduceLT, Nat.reduceAdd, Nat.reduceEqDiff, Nat.reduceBEq, Nat.reduceLeDiff, Nat.reduceMul, ttL, tyL, ht]
    refine StG.byO hE ht (j := t.findIdx (isN n)) (row := fileC t[t.findIdx (isN n)]) 9000 rfl rfl rfl rfl rfl (by simp [hi]) rfl (by simp) (by simp [tyL]) ?_
    simp only [evX, reduceIte, reduceCtorEq, Nat.reduceLT, Nat.reduceAdd, Nat.reduceEqDiff, Nat.reduceBEq, Nat.reduceLeDiff, Nat.reduceMul, ttL, tyL, ht]
    refine RetQ.ownV (.inr rfl) rfl rfl rfl ?_
    rw [treePut, if_pos ha]
    simp [List.map_set]
theorem ok_treeDel (t : List File) (n : Str) (hB : treeB t) : Ok Tryz.prog 80 [treeA t, strA n] (.v (treeA (treeDel t n))) := by
  have hlt : t.length * 40 ≤ 140737488351232 := hB.1
  (refine Ok.code hT hM (fn := Tryz.f80) rfl rfl rfl _ _ rfl rfl (Nat.le_of_ble_eq_true rfl) fun E hE hP ht h0 hrd => ?_; refine Go.run hE 9000 ?_; simp only [Tryz.f80, evX, reduceIte, reduceCtorEq, Nat.reduceLT, Nat.reduceAdd, Nat.reduceEqDiff, Nat.reduceBEq, Nat.reduceLeDiff, Nat.reduceMul, ttL, tyL, ht])
  (refine CallG.ok hE 9000 (hP ▸ ok_all t hB) rfl rfl ?_ <;> simp only [evX, reduceIte, reduceCtorEq, Nat.reduceLT, Nat.reduceAdd, Nat.reduceEqDiff, Nat.reduceBEq, Nat.reduceLeDiff, Nat.reduceMul, ttL, tyL, ht])
  (refine CallG.rd hE hP 9000 (ok_where t n (by omega)) rfl rfl rfl ?_ <;> simp only [evX, reduceIte, reduceCtorEq, Nat.reduceLT, Nat.reduceAdd, Nat.reduceEqDiff, Nat.reduceBEq, Nat.reduceLeDiff, Nat.reduceMul, ttL, tyL, ht])
  simp only [List.length_map, findIdx_lt]
  cases ha : t.any (isN n) <;> simp only [evX, reduceIte, reduceCtorEq, Nat.reduceLT, Nat.reduceAdd, Nat.reduceEqDiff, Nat.reduceBEq, Nat.reduceLeDiff, Nat.reduceMul, ttL, tyL, ht]
  · refine RetQ.ownV (.inr rfl) rfl rfl rfl ?_
    have h1 : t.findIdx (isN n) = t.length := by
      have := findIdx_lt (t := t) (f := isN n)
      rw [ha, decide_eq_false_iff_not] at this
      have := List.findIdx_le_length (p := isN n) (xs := t)
      omega
    rw [treeDel, h1]
    simp
  · have hi : t.findIdx (isN n) < t.length := by have := findIdx_lt (t := t) (f := isN n); rw [ha] at this; simpa using this
    rw [wrapN _ (by omega)]
    refine CallG.del hE hP 9000 delOkFile rfl rfl rfl (by simpa using hi) ?_
    simp only [evX, reduceIte, reduceCtorEq, Nat.reduceLT, Nat.reduceAdd, Nat.reduceEqDiff, Nat.reduceBEq, Nat.reduceLeDiff, Nat.reduceMul, ttL, tyL, ht]
    refine RetQ.ownV (.inr rfl) rfl rfl rfl ?_
    simp [treeDel, List.map_take, List.map_drop]
theorem ok_treeGet (t : List File) (n : Str) (hB : treeB t) : Ok Tryz.prog 78 [treeA t, strA n] (.v (.tup [strsA (treeGet t n).1, boolA (treeGet t n).2])) := by
  have hlt : t.length * 40 ≤ 140737488351232 := hB.1
  (refine Ok.code hT hM (fn := Tryz.f78) rfl rfl rfl _ _ rfl rfl (Nat.le_of_ble_eq_true rfl) fun E hE hP ht h0 hrd => ?_; refine Go.run hE 9000 ?_; simp only [Tryz.f78, evX, reduceIte, reduceCtorEq, Nat.reduceLT, Nat.reduceAdd, Nat.reduceEqDiff, Nat.reduceBEq, Nat.reduceLeDiff, Nat.reduceMul, ttL, tyL, ht])
  (refine CallG.ok hE 9000 (hP ▸ ok_where t n (by omega)) rfl rfl ?_ <;> simp only [evX, reduceIte, reduceCtorEq, Nat.reduceLT, Nat.reduceAdd, Nat.reduceEqDiff, Nat.reduceBEq, Nat.reduceLeDiff, Nat.reduceMul, ttL, tyL, ht])
  simp only [List.length_map, findIdx_lt]
  cases ha : t.any (isN n) <;> simp only [evX, reduceIte, reduceCtorEq, Nat.reduceLT, Nat.reduceAdd, Nat.reduceEqDiff, Nat.reduceBEq, Nat.reduceLeDiff, Nat.reduceMul, ttL, tyL, ht]
  · refine RetQ.two (.inr rfl) rfl rfl rfl ?_
    rw [treeGet_none ha]; rfl
  · have hi : t.findIdx (isN n) < t.length := by have := findIdx_lt (t := t) (f := isN n); rw [ha] at this; simpa using this
    refine IdxR.nat hE 9000 hi rfl ?_
    simp only [evX, reduceIte, reduceCtorEq, Nat.reduceLT, Nat.reduceAdd, Nat.reduceEqDiff, Nat.reduceBEq, Nat.reduceLeDiff, Nat.reduceMul, ttL, tyL, ht]
    (refine CallG.ok hE 9000 (hP ▸ ok_CloneStr t[t.findIdx (isN n)].lines (Nat.le_trans (hB.2 _ (List.getElem_mem hi)).len (by decide))) rfl rfl ?_ <;> simp only [evX, reduceIte, reduceCtorEq, Nat.reduceLT, Nat.reduceAdd, Nat.reduceEqDiff, Nat.reduceBEq, Nat.reduceLeDiff, Nat.reduceMul, ttL, tyL, ht])
    refine RetQ.two (.inr rfl) rfl rfl rfl ?_
    rw [treeGet_at hi]; rfl
theorem ok_lightT (t : List File) (hB : treeB t) : Ok Tryz.prog 6 [treeA t] (.v (boolA (treeLight t))) := by
  have hl : t.length * 40 ≤ 140737488351232 := hB.1
  (refine Ok.code hT hM (fn := Tryz.f6) rfl rfl rfl _ _ rfl rfl (Nat.le_of_ble_eq_true rfl) fun E hE hP ht h0 hrd => ?_; refine Go.run hE 9000 ?_; simp only [Tryz.f6, evX, reduceIte, reduceCtorEq, Nat.reduceLT, Nat.reduceAdd, Nat.reduceEqDiff, Nat.reduceBEq, Nat.reduceLeDiff, Nat.reduceMul, ttL, tyL, ht])
  ((first | refine SelF.byN (fun hb => ?_) (fun hb => ?_) | refine SelF.by (fun hb => ?_) (fun hb => ?_)) <;> simp only [hb, evX, reduceIte, reduceCtorEq, Nat.reduceLT, Nat.reduceAdd, Nat.reduceEqDiff, Nat.reduceBEq, Nat.reduceLeDiff, Nat.reduceMul, ttL, tyL, ht])
  · exact RetQ.bool (.inr rfl) rfl (by rw [treeLight]; simp at hb ⊢; intro h; omega)
  · refine Loop.by hE (ι := {i : Nat // i ≤ t.length ∧ ((t.take i).all fun f => lightS f.lines 300 && decide ((f.name.size : Int) ≤ 100)) = true}) (fun i => ⟨31, [(0, treeA t), (3, intA i.1)], [], [], []⟩) (fun i => t.length - i.1) ⟨0, by simp⟩ 9000 ⟨[], Wk.of rfl (by simp) (by rw [h0]; simp [fixB]) (by simp [wkT, okA, wkP, cloE, Vam.look, sig, ]) (by simp [wkBs, setBx, nthB, wkBx, wkL, okA, wkP, cloE, sig, ]) (by simp) (by simp)⟩ (by simp [h0]) ?_
    rintro ⟨i, hi, hall⟩
    simp only [evX, reduceIte, reduceCtorEq, Nat.reduceLT, Nat.reduceAdd, Nat.reduceEqDiff, Nat.reduceBEq, Nat.reduceLeDiff, Nat.reduceMul, ttL, tyL, ht]
    ((first | refine SelF.byN (fun hb => ?_) (fun hb => ?_) | refine SelF.by (fun hb => ?_) (fun hb => ?_)) <;> simp only [hb, evX, reduceIte, reduceCtorEq, Nat.reduceLT, Nat.reduceAdd, Nat.reduceEqDiff, Nat.reduceBEq, Nat.reduceLeDiff, Nat.reduceMul, ttL, tyL, ht])
    · simp only [decide_eq_true_eq] at hb
      have hlt : i < t.length := by omega
      refine IdxR.nat hE 9000 hlt rfl ?_
      simp only [evX, reduceIte, reduceCtorEq, Nat.reduceLT, Nat.reduceAdd, Nat.reduceEqDiff, Nat.reduceBEq, Nat.reduceLeDiff, Nat.reduceMul, ttL, tyL, ht]
      (refine CallG.ok hE 9000 (hP ▸ ok_lightS t[i].lines 300 (Nat.le_trans (hB.2 _ (List.getElem_mem hlt)).len (by decide))) rfl rfl ?_ <;> simp only [evX, reduceIte, reduceCtorEq, Nat.reduceLT, Nat.reduceAdd, Nat.reduceEqDiff, Nat.reduceBEq, Nat.reduceLeDiff, Nat.reduceMul, ttL, tyL, ht])
      ((first | refine SelF.byN (fun hb => ?_) (fun hb => ?_) | refine SelF.by (fun hb => ?_) (fun hb => ?_)) <;> simp only [hb, evX, reduceIte, reduceCtorEq, Nat.reduceLT, Nat.reduceAdd, Nat.reduceEqDiff, Nat.reduceBEq, Nat.reduceLeDiff, Nat.reduceMul, ttL, tyL, ht])
      · refine IdxR.nat hE 9000 hlt rfl ?_
        simp only [evX, reduceIte, reduceCtorEq, Nat.reduceLT, Nat.reduceAdd, Nat.reduceEqDiff, Nat.reduceBEq, Nat.reduceLeDiff, Nat.reduceMul, ttL, tyL, ht]
        ((first | refine SelF.byN (fun hb => ?_) (fun hb => ?_) | refine SelF.by (fun hb => ?_) (fun hb => ?_)) <;> simp only [hb, evX, reduceIte, reduceCtorEq, Nat.reduceLT, Nat.reduceAdd, Nat.reduceEqDiff, Nat.reduceBEq, Nat.reduceLeDiff, Nat.reduceMul, ttL, tyL, ht])
        · exact RetQ.bool (.inr rfl) rfl (by rw [treeLight, all_at hlt (by simp_all)]; simp)
        · refine ⟨⟨i + 1, by omega, by rw [all_take hlt, hall]; simp_all⟩, [], Wk.of rfl (by simp) (by rw [h0]; simp [fixB]) (by simp [wkT, okA, wkP, cloE, Vam.look, sig, wrapN i (by omega)]) (by simp [wkBs, setBx, nthB, wkBx, wkL, okA, wkP, cloE, sig, wrapN i (by omega)]) (by simp) (by simp), by simp only; omega⟩
      · repeat' ((first | refine SelF.byN (fun hb => ?_) (fun hb => ?_) | refine SelF.by (fun hb => ?_) (fun hb => ?_)) <;> simp only [hb, evX, reduceIte, reduceCtorEq, Nat.reduceLT, Nat.reduceAdd, Nat.reduceEqDiff, Nat.reduceBEq, Nat.reduceLeDiff, Nat.reduceMul, ttL, tyL, ht])
        exact RetQ.bool (.inr rfl) rfl (by rw [treeLight, all_at hlt (by simp_all)]; simp)
    · exact RetQ.bool (.inr rfl) rfl (by rw [treeLight, all_full hi (by simpa using hb) hall]; simp_all)
end Go.Proofs.YtfjlopdofjbfgaaGreat
