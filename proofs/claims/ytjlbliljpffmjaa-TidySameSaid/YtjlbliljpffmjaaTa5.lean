/- Lists of changes: tidied. -/
import Derived.Test.YtjlbliljpffmjaaTa4
namespace Go.Proofs.Ytjlbliljpffmjaa
open Go.Vam Go.Qm
set_option linter.unusedVariables false
set_option linter.unusedSimpArgs false
set_option maxRecDepth 8000

theorem ok_Tidy (l : List Prim) (hl : l.length * 96 ≤ 140737488355328) (hB : ∀ p ∈ l, primB p) : Ok Try.prog 25 [primsA l] (.v (primsA (tidyL l))) := by
  (refine Ok.code hT hM (fn := Try.f25) rfl rfl rfl _ _ rfl rfl (Nat.le_of_ble_eq_true rfl) fun E hE hP ht h0 hrd => ?_; refine Go.run hE 9000 ?_; simp only [Try.f25, evX, reduceIte, reduceCtorEq, Nat.reduceLT, Nat.reduceAdd, Nat.reduceEqDiff, Nat.reduceBEq, Nat.reduceLeDiff, Nat.reduceMul, ttL, tyL, ht])
  (refine CallG.ok hE 9000 (hP ▸ ok_Turn l hl hB) rfl rfl ?_ <;> simp only [evX, reduceIte, reduceCtorEq, Nat.reduceLT, Nat.reduceAdd, Nat.reduceEqDiff, Nat.reduceBEq, Nat.reduceLeDiff, Nat.reduceMul, ttL, tyL, ht])
  (refine CallG.ok hE 9000 (hP ▸ ok_Turn (l.reverse.map turnP) (by simpa using hl) (by intro p hp; obtain ⟨q, hq, rfl⟩ := List.mem_map.1 hp; exact turnP_B (hB q (by simpa using hq)))) rfl rfl ?_ <;> simp only [evX, reduceIte, reduceCtorEq, Nat.reduceLT, Nat.reduceAdd, Nat.reduceEqDiff, Nat.reduceBEq, Nat.reduceLeDiff, Nat.reduceMul, ttL, tyL, ht])
  rw [turn_turn]
  refine Go.nilC 0 0 26 6 rfl rfl ?_
  refine Loop.by hE (ι := {i : Nat // i ≤ l.length}) (fun i => ⟨37, [(0, primsA l), (3, .ptr 0 0), (10, primsA l), (11, intA l.length), (12, intA i.1)], [.cells [.own 1], .rows 26 6 (primsC (tidyL (l.take i.1)))], [], []⟩) (fun i => l.length - i.1) ⟨0, Nat.zero_le _⟩ 9000 ⟨[0, 1], ?_⟩ (by simp [h0]) ?_
  · refine Wk.of rfl (by simp) (by rw [h0]; simp [fixB]) ?_ ?_ (by simp) (by simp)
    · simp [wkT, okA, Vam.look, sig]
    · simp [wkBs, setBx, nthB, wkBx, wkL, okA, sig, tidyL]
  · rintro ⟨i, hi⟩
    simp only [evX, reduceIte, reduceCtorEq, Nat.reduceLT, Nat.reduceAdd, Nat.reduceEqDiff, Nat.reduceBEq, Nat.reduceLeDiff, Nat.reduceMul, ttL, tyL, ht]
    ((first | refine SelF.byN (fun hb => ?_) (fun hb => ?_) | refine SelF.by (fun hb => ?_) (fun hb => ?_)) <;> simp only [hb, evX, reduceIte, reduceCtorEq, Nat.reduceLT, Nat.reduceAdd, Nat.reduceEqDiff, Nat.reduceBEq, Nat.reduceLeDiff, Nat.reduceMul, ttL, tyL, ht])
    · simp only [decide_eq_true_eq] at hb
      have hlt : i < l.length := by omega
      refine IdxR.nat hE 9000 hlt rfl ?_
      simp only [evX, reduceIte, reduceCtorEq, Nat.reduceLT, Nat.reduceAdd, Nat.reduceEqDiff, Nat.reduceBEq, Nat.reduceLeDiff, Nat.reduceMul, ttL, tyL, ht]
      (refine StG.by hE ht 9000 rfl ?_ <;> simp only [evX, reduceIte, reduceCtorEq, Nat.reduceLT, Nat.reduceAdd, Nat.reduceEqDiff, Nat.reduceBEq, Nat.reduceLeDiff, Nat.reduceMul, ttL, tyL, ht])
      refine CallG.inl hE hP ht (fn := Try.f46) rfl rfl rfl _ _ rfl rfl _ rfl (Nat.le_of_ble_eq_true rfl) fun E' hE' hP' ht' h0' hrd' => ?_
      refine Go.run hE' 9000 ?_
      simp only [Try.f46, evX, reduceIte, reduceCtorEq, Nat.reduceLT, Nat.reduceAdd, Nat.reduceEqDiff, Nat.reduceBEq, Nat.reduceLeDiff, Nat.reduceMul, ttL, tyL, ht']
      ((first | refine SelF.byN (fun hb => ?_) (fun hb => ?_) | refine SelF.by (fun hb => ?_) (fun hb => ?_)) <;> simp only [hb, evX, reduceIte, reduceCtorEq, Nat.reduceLT, Nat.reduceAdd, Nat.reduceEqDiff, Nat.reduceBEq, Nat.reduceLeDiff, Nat.reduceMul, ttL, tyL, ht'])
      · have hpos : 0 < (tidyL (l.take i)).length := by simpa using hb
        have hlen : (tidyL (l.take i)).length ≤ i := Nat.le_trans (tidyL_len _) (by simp; omega)
        have hj : (tidyL (l.take i)).length - 1 < (tidyL (l.take i)).length := by omega
        rw [wrapP _ (by omega) (by omega)]
        refine IdxO.by hE' 9000 (by omega) (by simp; omega) ?_
        simp only [evX, reduceIte, reduceCtorEq, Nat.reduceLT, Nat.reduceAdd, Nat.reduceEqDiff, Nat.reduceBEq, Nat.reduceLeDiff, Nat.reduceMul, ttL, tyL, ht']
        refine LdO.by hE' (j := (tidyL (l.take i)).length - 1) (row := primC (tidyL (l.take i))[(tidyL (l.take i)).length - 1]) 9000 (by simp [hj]) (by omega) (by simp) ?_
        rw [show (((tidyL (l.take i)).length : Int) - 1).toNat * 6 - ((tidyL (l.take i)).length - 1) * 6 = 0 by omega]
        simp only [evX, reduceIte, reduceCtorEq, Nat.reduceLT, Nat.reduceAdd, Nat.reduceEqDiff, Nat.reduceBEq, Nat.reduceLeDiff, Nat.reduceMul, ttL, tyL, ht']
        refine StG.by hE' ht' 9000 rfl ?_
        simp only [evX, reduceIte, reduceCtorEq, Nat.reduceLT, Nat.reduceAdd, Nat.reduceEqDiff, Nat.reduceBEq, Nat.reduceLeDiff, Nat.reduceMul, ttL, tyL, ht']
        refine InlQ.by hE 9000 (.inr rfl) rfl ?_
        simp only [evX, reduceIte, reduceCtorEq, Nat.reduceLT, Nat.reduceAdd, Nat.reduceEqDiff, Nat.reduceBEq, Nat.reduceLeDiff, Nat.reduceMul, ttL, tyL, ht]
        (refine StG.by hE ht 9000 rfl ?_ <;> simp only [evX, reduceIte, reduceCtorEq, Nat.reduceLT, Nat.reduceAdd, Nat.reduceEqDiff, Nat.reduceBEq, Nat.reduceLeDiff, Nat.reduceMul, ttL, tyL, ht])
        have hmem : ∀ q ∈ tidyL (l.take i), primB q := fun q hq => hB q (List.mem_of_mem_take (tidyL_mem hq))
        (refine CallG.ok hE 9000 (hP ▸ ok_idle l[i] (hB _ (List.getElem_mem hlt))) rfl rfl ?_ <;> simp only [evX, reduceIte, reduceCtorEq, Nat.reduceLT, Nat.reduceAdd, Nat.reduceEqDiff, Nat.reduceBEq, Nat.reduceLeDiff, Nat.reduceMul, ttL, tyL, ht])
        ((first | refine SelF.byN (fun hb => ?_) (fun hb => ?_) | refine SelF.by (fun hb => ?_) (fun hb => ?_)) <;> simp only [hb, evX, reduceIte, reduceCtorEq, Nat.reduceLT, Nat.reduceAdd, Nat.reduceEqDiff, Nat.reduceBEq, Nat.reduceLeDiff, Nat.reduceMul, ttL, tyL, ht])
        · refine ⟨⟨i + 1, by omega⟩, [0, 1], Wk.of rfl (by simp) (by rw [h0]; simp [fixB]) ?_ ?_ (by simp) (by simp), by simp only; omega⟩
          · simp [wkT, okA, Vam.look, sig, wrapN i (by omega)]
          · simp [wkBs, nthB, wkBx, wkL, okA, sig, tidyL_take hlt, tidyStep, hb]
        · (refine CallG.ok hE 9000 (hP ▸ ok_turnP (tidyL (l.take i))[(tidyL (l.take i)).length - 1] (hmem _ (List.getElem_mem hj))) rfl rfl ?_ <;> simp only [evX, reduceIte, reduceCtorEq, Nat.reduceLT, Nat.reduceAdd, Nat.reduceEqDiff, Nat.reduceBEq, Nat.reduceLeDiff, Nat.reduceMul, ttL, tyL, ht])
          (refine CallG.ok hE 9000 (hP ▸ ok_sameP l[i] (turnP (tidyL (l.take i))[(tidyL (l.take i)).length - 1]) (hB _ (List.getElem_mem hlt))) rfl rfl ?_ <;> simp only [evX, reduceIte, reduceCtorEq, Nat.reduceLT, Nat.reduceAdd, Nat.reduceEqDiff, Nat.reduceBEq, Nat.reduceLeDiff, Nat.reduceMul, ttL, tyL, ht])
          refine ⟨by kernel_rfl, ?_⟩
          ((first | refine SelF.byN (fun hb => ?_) (fun hb => ?_) | refine SelF.by (fun hb => ?_) (fun hb => ?_)) <;> simp only [hb, evX, reduceIte, reduceCtorEq, Nat.reduceLT, Nat.reduceAdd, Nat.reduceEqDiff, Nat.reduceBEq, Nat.reduceLeDiff, Nat.reduceMul, ttL, tyL, ht])
          · refine CallG.inl hE hP ht (fn := Try.f48) rfl rfl rfl _ _ rfl rfl _ rfl (Nat.le_of_ble_eq_true rfl) fun E2 hE2 hP2 ht2 h02 hrd2 => ?_
            refine Go.run hE2 9000 ?_
            simp only [Try.f48, evX, reduceIte, reduceCtorEq, Nat.reduceLT, Nat.reduceAdd, Nat.reduceEqDiff, Nat.reduceBEq, Nat.reduceLeDiff, Nat.reduceMul, ttL, tyL, ht2]
            rw [wrapP _ (by omega) (by omega)]
            refine SlcO.by hE2 9000 (by omega) (by simp; omega) ?_
            simp only [evX, reduceIte, reduceCtorEq, Nat.reduceLT, Nat.reduceAdd, Nat.reduceEqDiff, Nat.reduceBEq, Nat.reduceLeDiff, Nat.reduceMul, ttL, tyL, ht2]
            refine StG.byD hE2 ht2 9000 rfl (by kernel_rfl) ?_
            simp only [evX, reduceIte, reduceCtorEq, Nat.reduceLT, Nat.reduceAdd, Nat.reduceEqDiff, Nat.reduceBEq, Nat.reduceLeDiff, Nat.reduceMul, ttL, tyL, ht2]
            refine InlQ.by hE 9000 (.inl rfl) rfl ?_
            simp only [evX, reduceIte, reduceCtorEq, Nat.reduceLT, Nat.reduceAdd, Nat.reduceEqDiff, Nat.reduceBEq, Nat.reduceLeDiff, Nat.reduceMul, ttL, tyL, ht]
            refine ⟨⟨i + 1, by omega⟩, [0, 5], Wk.of rfl (by simp) (by rw [h0]; simp [fixB]) ?_ ?_ (by simp) (by simp), by simp only; omega⟩
            · simp [wkT, okA, Vam.look, sig, wrapN i (by omega)]
            · have hdl : ((tidyL (l.take i)).length : Int) - 1 = (((tidyL (l.take i)).length - 1 : Nat) : Int) := by omega
              simp [wkBs, nthB, wkBx, wkL, okA, sig, tidyL_take hlt, tidyStep_pop (by assumption) hj hb, hdl, List.dropLast_eq_take, List.map_take]
          · refine CallG.inl hE hP ht (fn := Try.f49) rfl rfl rfl _ _ rfl rfl _ rfl (Nat.le_of_ble_eq_true rfl) fun E2 hE2 hP2 ht2 h02 hrd2 => ?_
            refine Go.run hE2 9000 ?_
            simp only [Try.f49, evX, reduceIte, reduceCtorEq, Nat.reduceLT, Nat.reduceAdd, Nat.reduceEqDiff, Nat.reduceBEq, Nat.reduceLeDiff, Nat.reduceMul, ttL, tyL, ht2]
            refine AppG.by hE2 9000 rfl rfl (by simp [rowLen]) ?_ ?_
            · simp; omega
            simp only [evX, reduceIte, reduceCtorEq, Nat.reduceLT, Nat.reduceAdd, Nat.reduceEqDiff, Nat.reduceBEq, Nat.reduceLeDiff, Nat.reduceMul, ttL, tyL, ht2]
            refine StG.byD hE2 ht2 9000 rfl (by kernel_rfl) ?_
            simp only [evX, reduceIte, reduceCtorEq, Nat.reduceLT, Nat.reduceAdd, Nat.reduceEqDiff, Nat.reduceBEq, Nat.reduceLeDiff, Nat.reduceMul, ttL, tyL, ht2]
            refine InlQ.by hE 9000 (.inl rfl) rfl ?_
            simp only [evX, reduceIte, reduceCtorEq, Nat.reduceLT, Nat.reduceAdd, Nat.reduceEqDiff, Nat.reduceBEq, Nat.reduceLeDiff, Nat.reduceMul, ttL, tyL, ht]
            refine ⟨⟨i + 1, by omega⟩, [0, 7], Wk.of rfl (by simp) (by rw [h0]; simp [fixB]) ?_ ?_ (by simp) (by simp), by simp only; omega⟩
            · simp [wkT, okA, Vam.look, sig, wrapN i (by omega)]
            · simp [wkBs, nthB, wkBx, wkL, okA, sig, tidyL_take hlt, tidyStep_push (by assumption) (fun _ => hb)]
      · have hnil : tidyL (l.take i) = [] := by simpa using hb
        refine StG.by hE' ht' 9000 rfl ?_
        simp only [evX, reduceIte, reduceCtorEq, Nat.reduceLT, Nat.reduceAdd, Nat.reduceEqDiff, Nat.reduceBEq, Nat.reduceLeDiff, Nat.reduceMul, ttL, tyL, ht']
        refine InlQ.by hE 9000 (.inr rfl) rfl ?_
        simp only [evX, reduceIte, reduceCtorEq, Nat.reduceLT, Nat.reduceAdd, Nat.reduceEqDiff, Nat.reduceBEq, Nat.reduceLeDiff, Nat.reduceMul, ttL, tyL, ht]
        (refine StG.by hE ht 9000 rfl ?_ <;> simp only [evX, reduceIte, reduceCtorEq, Nat.reduceLT, Nat.reduceAdd, Nat.reduceEqDiff, Nat.reduceBEq, Nat.reduceLeDiff, Nat.reduceMul, ttL, tyL, ht])
        (refine CallG.ok hE 9000 (hP ▸ ok_idle l[i] (hB _ (List.getElem_mem hlt))) rfl rfl ?_ <;> simp only [evX, reduceIte, reduceCtorEq, Nat.reduceLT, Nat.reduceAdd, Nat.reduceEqDiff, Nat.reduceBEq, Nat.reduceLeDiff, Nat.reduceMul, ttL, tyL, ht])
        ((first | refine SelF.byN (fun hb => ?_) (fun hb => ?_) | refine SelF.by (fun hb => ?_) (fun hb => ?_)) <;> simp only [hb, evX, reduceIte, reduceCtorEq, Nat.reduceLT, Nat.reduceAdd, Nat.reduceEqDiff, Nat.reduceBEq, Nat.reduceLeDiff, Nat.reduceMul, ttL, tyL, ht])
        · refine ⟨⟨i + 1, by omega⟩, [0, 1], Wk.of rfl (by simp) (by rw [h0]; simp [fixB]) ?_ ?_ (by simp) (by simp), by simp only; omega⟩
          · simp [wkT, okA, Vam.look, sig, wrapN i (by omega)]
          · simp [wkBs, nthB, wkBx, wkL, okA, sig, tidyL_take hlt, tidyStep, hb]
        · refine ⟨by kernel_rfl, ?_⟩
          refine CallG.inl hE hP ht (fn := Try.f49) rfl rfl rfl _ _ rfl rfl _ rfl (Nat.le_of_ble_eq_true rfl) fun E2 hE2 hP2 ht2 h02 hrd2 => ?_
          refine Go.run hE2 9000 ?_
          simp only [Try.f49, evX, reduceIte, reduceCtorEq, Nat.reduceLT, Nat.reduceAdd, Nat.reduceEqDiff, Nat.reduceBEq, Nat.reduceLeDiff, Nat.reduceMul, ttL, tyL, ht2]
          refine AppG.by hE2 9000 rfl rfl (by simp [rowLen]) ?_ ?_
          · rw [hnil]; simp
          simp only [evX, reduceIte, reduceCtorEq, Nat.reduceLT, Nat.reduceAdd, Nat.reduceEqDiff, Nat.reduceBEq, Nat.reduceLeDiff, Nat.reduceMul, ttL, tyL, ht2]
          refine StG.byD hE2 ht2 9000 rfl (by kernel_rfl) ?_
          simp only [evX, reduceIte, reduceCtorEq, Nat.reduceLT, Nat.reduceAdd, Nat.reduceEqDiff, Nat.reduceBEq, Nat.reduceLeDiff, Nat.reduceMul, ttL, tyL, ht2]
          refine InlQ.by hE 9000 (.inl rfl) rfl ?_
          simp only [evX, reduceIte, reduceCtorEq, Nat.reduceLT, Nat.reduceAdd, Nat.reduceEqDiff, Nat.reduceBEq, Nat.reduceLeDiff, Nat.reduceMul, ttL, tyL, ht]
          refine ⟨⟨i + 1, by omega⟩, [0, 7], Wk.of rfl (by simp) (by rw [h0]; simp [fixB]) ?_ ?_ (by simp) (by simp), by simp only; omega⟩
          · simp [wkT, okA, Vam.look, sig, wrapN i (by omega)]
          · simp [wkBs, nthB, wkBx, wkL, okA, sig, tidyL_take hlt, hnil, tidyStep, hb]
    · have : i = l.length := by simp at hb; omega
      subst this
      refine RetQ.ownV (.inr rfl) rfl rfl rfl ?_
      rw [List.take_length]
end Go.Proofs.Ytjlbliljpffmjaa
