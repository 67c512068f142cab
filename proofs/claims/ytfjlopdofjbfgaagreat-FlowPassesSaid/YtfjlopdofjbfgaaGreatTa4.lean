/- Lists of changes: turned. -/
import Derived.Test.YtfjlopdofjbfgaaGreatTa3
namespace Go.Proofs.YtfjlopdofjbfgaaGreat
open Go.Vam Go.Qm
set_option linter.unusedVariables false
set_option linter.unusedSimpArgs false
set_option maxRecDepth 8000

theorem ok_Backward (l : List Prim) : Ok Tryz.prog 25 [primsA l] (.v (.c (.fn 44 [[.sl (primsC l)]]))) := by
  (refine Ok.code hT hM (fn := Tryz.f25) rfl rfl rfl _ _ rfl rfl (Nat.le_of_ble_eq_true rfl) fun E hE hP ht h0 hrd => ?_; refine Go.run hE 9000 ?_; simp only [Tryz.f25, evX, reduceIte, reduceCtorEq, Nat.reduceLT, Nat.reduceAdd, Nat.reduceEqDiff, Nat.reduceBEq, Nat.reduceLeDiff, Nat.reduceMul, ttL, tyL, ht])
  exact RetQ.c (.inr rfl) rfl rfl
theorem ok_Turn (l : List Prim) (hl : l.length * 96 ≤ 140737488355328) (hB : ∀ p ∈ l, primB p) : Ok Tryz.prog 12 [primsA l] (.v (primsA (l.reverse.map turnP))) := by
  (refine Ok.code hT hM (fn := Tryz.f12) rfl rfl rfl _ _ rfl rfl (Nat.le_of_ble_eq_true rfl) fun E hE hP ht h0 hrd => ?_; refine Go.run hE 9000 ?_; simp only [Tryz.f12, evX, reduceIte, reduceCtorEq, Nat.reduceLT, Nat.reduceAdd, Nat.reduceEqDiff, Nat.reduceBEq, Nat.reduceLeDiff, Nat.reduceMul, ttL, tyL, ht])
  (refine CallG.ok hE 9000 (hP ▸ ok_Backward l) rfl rfl ?_ <;> simp only [evX, reduceIte, reduceCtorEq, Nat.reduceLT, Nat.reduceAdd, Nat.reduceEqDiff, Nat.reduceBEq, Nat.reduceLeDiff, Nat.reduceMul, ttL, tyL, ht])
  refine Rng.by hE hP ht hrd (fn := Tryz.f44) rfl rfl rfl rfl _ _ rfl rfl _ rfl (Nat.le_of_ble_eq_true rfl) fun E' tm' ps' as' bd' hE' hP' ht' h0' hrd' htm hps has hbd => ?_
  refine Go.run hE' 9000 ?_
  simp only [Tryz.f44, evX, reduceIte, reduceCtorEq, Nat.reduceLT, Nat.reduceAdd, Nat.reduceEqDiff, Nat.reduceBEq, Nat.reduceLeDiff, Nat.reduceMul, ttL, tyL, ht']
  simp only [List.length_cons, List.length_nil] at h0'
  refine Go.nilC 0 0 42 6 rfl rfl ?_
  refine Loop.by hE' (ι := {i : Nat // i ≤ l.length}) (fun i => ⟨19, [(0, .yld 1), (1, .pt [.sl (primsC l)]), (3, intA ((i.1 : Int) - 1))], [.cells [.own 2], .lp 16 tm' ps' as' bd' .ready none, .rows 42 6 (primsC ((l.drop i.1).reverse.map turnP))], [], []⟩) (fun i => i.1) ⟨l.length, Nat.le_refl _⟩ 9000 ⟨[0, 1, 2], ?_⟩ (by simp [h0']) ?_
  · subst htm
    refine Wk.of rfl (by simp) (by rw [h0']; simp [fixB]) ?_ ?_ (by simp) (by simp)
    · simp [wkT, okA, Vam.look, sig]
      rw [wrap64 (by omega) (by omega)]
    · simp [wkBs, setBx, nthB, wkBx, wkL, okA, sig, wkT, Vam.look, List.drop_length]
  · rintro ⟨i, hi⟩
    simp only [evX, reduceIte, reduceCtorEq, Nat.reduceLT, Nat.reduceAdd, Nat.reduceEqDiff, Nat.reduceBEq, Nat.reduceLeDiff, Nat.reduceMul, ttL, tyL, ht']
    ((first | refine SelF.byN (fun hb => ?_) (fun hb => ?_) | refine SelF.by (fun hb => ?_) (fun hb => ?_)) <;> simp only [hb, evX, reduceIte, reduceCtorEq, Nat.reduceLT, Nat.reduceAdd, Nat.reduceEqDiff, Nat.reduceBEq, Nat.reduceLeDiff, Nat.reduceMul, ttL, tyL, ht'])
    · simp only [decide_eq_true_eq] at hb
      have hi0 : 0 < i := by omega
      have hlt : i - 1 < l.length := by omega
      rw [show ((i : Int) - 1) = ((i - 1 : Nat) : Int) by omega]
      refine IdxR.nat hE' 9000 hlt rfl ?_
      simp only [evX, reduceIte, reduceCtorEq, Nat.reduceLT, Nat.reduceAdd, Nat.reduceEqDiff, Nat.reduceBEq, Nat.reduceLeDiff, Nat.reduceMul, ttL, tyL, ht']
      refine YldG.by hE' hP' ht' rfl rfl (by rw [hps]; rfl) (by rw [hps]; simp) fun E2 hE2 hP2 ht2 h02 => ?_
      refine Go.run hE2 9000 ?_
      simp only [htm, hps, has, hbd]
      simp only [evX, reduceIte, reduceCtorEq, Nat.reduceLT, Nat.reduceAdd, Nat.reduceEqDiff, Nat.reduceBEq, Nat.reduceLeDiff, Nat.reduceMul, ttL, tyL, ht2]
      refine StG.by hE2 ht2 9000 rfl ?_
      simp only [evX, reduceIte, reduceCtorEq, Nat.reduceLT, Nat.reduceAdd, Nat.reduceEqDiff, Nat.reduceBEq, Nat.reduceLeDiff, Nat.reduceMul, ttL, tyL, ht2]
      refine AsgQ.by hE2 9000 rfl rfl ?_
      simp only [evX, reduceIte, reduceCtorEq, Nat.reduceLT, Nat.reduceAdd, Nat.reduceEqDiff, Nat.reduceBEq, Nat.reduceLeDiff, Nat.reduceMul, ttL, tyL, ht2]
      refine CallG.ok hE2 9000 (hP2 ▸ ok_turnP l[i - 1] (hB _ (List.getElem_mem hlt))) rfl rfl ?_
      simp only [evX, reduceIte, reduceCtorEq, Nat.reduceLT, Nat.reduceAdd, Nat.reduceEqDiff, Nat.reduceBEq, Nat.reduceLeDiff, Nat.reduceMul, ttL, tyL, ht2]
      refine AppG.by hE2 9000 rfl rfl (by simp [rowLen]) ?_ ?_
      · simp; omega
      simp only [evX, reduceIte, reduceCtorEq, Nat.reduceLT, Nat.reduceAdd, Nat.reduceEqDiff, Nat.reduceBEq, Nat.reduceLeDiff, Nat.reduceMul, ttL, tyL, ht2]
      refine StG.byD hE2 ht2 9000 rfl (by kernel_rfl) ?_
      simp only [evX, reduceIte, reduceCtorEq, Nat.reduceLT, Nat.reduceAdd, Nat.reduceEqDiff, Nat.reduceBEq, Nat.reduceLeDiff, Nat.reduceMul, ttL, tyL, ht2]
      refine YldQ.normal hE' 9000 rfl rfl ?_
      simp only [evX, reduceIte, reduceCtorEq, Nat.reduceLT, Nat.reduceAdd, Nat.reduceEqDiff, Nat.reduceBEq, Nat.reduceLeDiff, Nat.reduceMul, ttL, tyL, ht']
      subst htm; subst hps; subst has; subst hbd
      have hdr : l.drop (i - 1) = l[i - 1] :: l.drop i := by
        rw [List.drop_eq_getElem_cons hlt, show i - 1 + 1 = i by omega]
      refine ⟨⟨i - 1, by omega⟩, [0, 1, 5], Wk.of rfl (by simp) (by rw [h0']; simp [fixB]) ?_ ?_ (by simp) (by simp), by simp only; omega⟩
      · simp [wkT, okA, Vam.look, sig]
        rw [wrap64 (by omega) (by omega)]
      · simp [wkBs, nthB, wkBx, wkL, okA, sig, wkT, Vam.look, hdr]
    · refine RngQ.by hE 9000 (.inl rfl) rfl rfl (by simp) rfl ?_
      simp only [htm]
      simp only [evX, reduceIte, reduceCtorEq, Nat.reduceLT, Nat.reduceAdd, Nat.reduceEqDiff, Nat.reduceBEq, Nat.reduceLeDiff, Nat.reduceMul, ttL, tyL, ht]
      refine RetQ.ownV (.inr rfl) rfl rfl rfl ?_
      have : i = 0 := by simp at hb; omega
      subst this
      simp
end Go.Proofs.YtfjlopdofjbfgaaGreat
