/- Many named patches, the document's way. -/
import Derived.Test.YtmijejoddoolpaaGreatTf3
import Derived.Test.YtmijejoddoolpaaGreatTe5
namespace Go.Proofs.YtmijejoddoolpaaGreat
open Go.Vam Go.Qm
set_option linter.unusedVariables false
set_option linter.unusedSimpArgs false
set_option maxRecDepth 8000
set_option maxHeartbeats 2000000

theorem ok_ref14Find (l : List Named) (x : Qm.Id) (hl : l.length < 9223372036854775807) : Ok Tryz.prog 17 [namedsA l, idA x] (.v (intA (findN l x))) := by
  (refine Ok.code hT hM (fn := Tryz.f17) rfl rfl rfl _ _ rfl rfl (Nat.le_of_ble_eq_true rfl) fun E hE hP ht h0 hrd => ?_; refine Go.run hE 9000 ?_; simp only [Tryz.f17, evX, reduceIte, reduceCtorEq, Nat.reduceLT, Nat.reduceAdd, Nat.reduceEqDiff, Nat.reduceBEq, Nat.reduceLeDiff, Nat.reduceMul, ttL, tyL, ht])
  refine Loop.by hE (ι := {i : Nat // i ≤ l.length ∧ (l.take i).any (fun p => idEq p.id x) = false}) (fun i => ⟨20, [(0, namedsA l), (3, .ptr 0 0), (5, intA i.1)], [.cells ((idC x).map .c)], [], []⟩) (fun i => l.length - i.1) ⟨0, by simp⟩ 9000 ⟨[0], Wk.of rfl (by simp) (by rw [h0]; simp [fixB]) (by simp [wkT, okA, wkP, cloE, Vam.look, sig, ]) (by simp [wkBs, setBx, nthB, wkBx, wkL, okA, wkP, cloE, sig, ]) (by simp) (by simp)⟩ (by simp [h0]) ?_
  rintro ⟨i, hi, hall⟩
  simp only [evX, reduceIte, reduceCtorEq, Nat.reduceLT, Nat.reduceAdd, Nat.reduceEqDiff, Nat.reduceBEq, Nat.reduceLeDiff, Nat.reduceMul, ttL, tyL, ht]
  ((first | refine SelF.byN (fun hb => ?_) (fun hb => ?_) | refine SelF.by (fun hb => ?_) (fun hb => ?_)) <;> simp only [hb, evX, reduceIte, reduceCtorEq, Nat.reduceLT, Nat.reduceAdd, Nat.reduceEqDiff, Nat.reduceBEq, Nat.reduceLeDiff, Nat.reduceMul, ttL, tyL, ht])
  · simp only [decide_eq_true_eq] at hb
    have hlt : i < l.length := by omega
    refine IdxR.nat hE 9000 hlt rfl ?_
    simp only [evX, reduceIte, reduceCtorEq, Nat.reduceLT, Nat.reduceAdd, Nat.reduceEqDiff, Nat.reduceBEq, Nat.reduceLeDiff, Nat.reduceMul, ttL, tyL, ht]
    (refine HardOp.eqI hE 9000 rfl (hP ▸ eqT) rfl ?_ <;> simp only [evX, reduceIte, reduceCtorEq, Nat.reduceLT, Nat.reduceAdd, Nat.reduceEqDiff, Nat.reduceBEq, Nat.reduceLeDiff, Nat.reduceMul, ttL, tyL, ht])
    refine ⟨by kernel_rfl, ?_⟩
    have hc : (l[i].id.who == x.who && l[i].id.no == x.no) = idEq l[i].id x := rfl
    simp only [hc, evX, reduceIte, reduceCtorEq, Nat.reduceLT, Nat.reduceAdd, Nat.reduceEqDiff, Nat.reduceBEq, Nat.reduceLeDiff, Nat.reduceMul, ttL, tyL, ht]
    ((first | refine SelF.byN (fun hb => ?_) (fun hb => ?_) | refine SelF.by (fun hb => ?_) (fun hb => ?_)) <;> simp only [hb, evX, reduceIte, reduceCtorEq, Nat.reduceLT, Nat.reduceAdd, Nat.reduceEqDiff, Nat.reduceBEq, Nat.reduceLeDiff, Nat.reduceMul, ttL, tyL, ht])
    · exact RetQ.c (.inr rfl) rfl (by rw [findN, idxI_at hlt hall hb])
    · refine ⟨⟨i + 1, by omega, by rw [any_take hlt, hall, hb]; rfl⟩, [0], Wk.of rfl (by simp) (by rw [h0]; simp [fixB]) (by simp [wkT, okA, wkP, cloE, Vam.look, sig, wrapN i (by omega)]) (by simp [wkBs, setBx, nthB, wkBx, wkL, okA, wkP, cloE, sig, wrapN i (by omega)]) (by simp) (by simp), by simp only; omega⟩
  · exact RetQ.c (.inr rfl) rfl (by rw [findN, idxI_none hi (by simpa using hb) hall])
theorem ok_ref14All (l : List Named) (bl : namedsB l) (hn : (allN l).length * 96 ≤ 140737488355328) : Ok Tryz.prog 15 [namedsA l] (.v (primsA (allN l))) := by
  have h1 := bl.1
  simp only [Big] at h1
  have hle : ∀ i, i ≤ l.length → (allN (l.take i)).length ≤ (allN l).length := fun i hi => by
    conv => rhs; rw [← List.take_append_drop i l, allN_append]
    simp
  (refine Ok.code hT hM (fn := Tryz.f15) rfl rfl rfl _ _ rfl rfl (Nat.le_of_ble_eq_true rfl) fun E hE hP ht h0 hrd => ?_; refine Go.run hE 9000 ?_; simp only [Tryz.f15, evX, reduceIte, reduceCtorEq, Nat.reduceLT, Nat.reduceAdd, Nat.reduceEqDiff, Nat.reduceBEq, Nat.reduceLeDiff, Nat.reduceMul, ttL, tyL, ht])
  refine Go.nilT 3 55 6 rfl ?_
  refine Loop.by hE (ι := {i : Nat // i ≤ l.length}) (fun i => ⟨19, [(0, namedsA l), (3, .own 0), (4, intA i.1)], [.rows 55 6 (primsC (allN (l.take i.1)))], [], []⟩) (fun i => l.length - i.1) ⟨0, by simp⟩ 9000 ⟨[0], Wk.of rfl (by simp) (by rw [h0]; simp [fixB]) (by simp [wkT, okA, wkP, cloE, Vam.look, sig, allN]) (by simp [wkBs, setBx, nthB, wkBx, wkL, okA, wkP, cloE, sig, allN]) (by simp) (by simp)⟩ (by simp [h0]) ?_
  rintro ⟨i, hi⟩
  simp only [evX, reduceIte, reduceCtorEq, Nat.reduceLT, Nat.reduceAdd, Nat.reduceEqDiff, Nat.reduceBEq, Nat.reduceLeDiff, Nat.reduceMul, ttL, tyL, ht]
  ((first | refine SelF.byN (fun hb => ?_) (fun hb => ?_) | refine SelF.by (fun hb => ?_) (fun hb => ?_)) <;> simp only [hb, evX, reduceIte, reduceCtorEq, Nat.reduceLT, Nat.reduceAdd, Nat.reduceEqDiff, Nat.reduceBEq, Nat.reduceLeDiff, Nat.reduceMul, ttL, tyL, ht])
  · simp only [decide_eq_true_eq] at hb
    have hlt : i < l.length := by omega
    refine IdxR.nat hE 9000 hlt rfl ?_
    simp only [evX, reduceIte, reduceCtorEq, Nat.reduceLT, Nat.reduceAdd, Nat.reduceEqDiff, Nat.reduceBEq, Nat.reduceLeDiff, Nat.reduceMul, ttL, tyL, ht]
    have hl2 := hle (i + 1) (by omega)
    rw [allN_take hlt] at hl2
    simp only [List.length_append] at hl2
    refine AppG.by hE 9000 rfl rfl (rowLen_prims _) (by simp; omega) ?_
    simp only [evX, reduceIte, reduceCtorEq, Nat.reduceLT, Nat.reduceAdd, Nat.reduceEqDiff, Nat.reduceBEq, Nat.reduceLeDiff, Nat.reduceMul, ttL, tyL, ht]
    have htk : primsC (allN (l.take i)) ++ primsC l[i].l = primsC (allN (l.take (i + 1))) := by rw [allN_take hlt, primsC, primsC, primsC, List.map_append]
    rw [htk]
    refine ⟨⟨i + 1, by omega⟩, [1], Wk.of rfl (by simp) (by rw [h0]; simp [fixB]) (by simp [wkT, okA, wkP, cloE, Vam.look, sig, wrapN i (by omega)]) (by simp [wkBs, setBx, nthB, wkBx, wkL, okA, wkP, cloE, sig, wrapN i (by omega)]) (by simp) (by simp), by simp only; omega⟩
  · have : i = l.length := by simp at hb; omega
    subst this
    exact RetQ.ownV (.inr rfl) rfl rfl rfl (by rw [List.take_length])
theorem ok_ref14Apply (t : List File) (l : List Named) {a b : Nat} (nt : treeN a b t) (bl : namedsB l) (rl : ∀ p ∈ l, namedR p) (hn : (allN l).length ≤ 200000) (ha : (a + 200000) * 40 ≤ Big) (hb' : (b + 200 * 200000) * 16 ≤ Big) : Ok Tryz.prog 11 [treeA t, namedsA l] (.v (.tup [treeA (runL t (allN l)).1, intA (runL t (allN l)).2])) := by
  (refine Ok.code hT hM (fn := Tryz.f11) rfl rfl rfl _ _ rfl rfl (Nat.le_of_ble_eq_true rfl) fun E hE hP ht h0 hrd => ?_; refine Go.run hE 9000 ?_; simp only [Tryz.f11, evX, reduceIte, reduceCtorEq, Nat.reduceLT, Nat.reduceAdd, Nat.reduceEqDiff, Nat.reduceBEq, Nat.reduceLeDiff, Nat.reduceMul, ttL, tyL, ht])
  (refine CallG.ok hE 9000 (hP ▸ ok_ref14All l bl (by omega)) rfl rfl ?_ <;> simp only [evX, reduceIte, reduceCtorEq, Nat.reduceLT, Nat.reduceAdd, Nat.reduceEqDiff, Nat.reduceBEq, Nat.reduceLeDiff, Nat.reduceMul, ttL, tyL, ht])
  (refine CallG.ok hE 9000 (hP ▸ ok_ref10Apply t (allN l) nt (by omega) (allN_B bl) (allN_R rl) (Nat.le_trans (Nat.mul_le_mul_right _ (by omega)) ha) (Nat.le_trans (Nat.mul_le_mul_right _ (by omega)) hb')) rfl rfl ?_ <;> simp only [evX, reduceIte, reduceCtorEq, Nat.reduceLT, Nat.reduceAdd, Nat.reduceEqDiff, Nat.reduceBEq, Nat.reduceLeDiff, Nat.reduceMul, ttL, tyL, ht])
  exact RetQ.two (.inr rfl) rfl rfl rfl rfl
theorem ok_ref14List (a b : List Named) (bA : namedsB a) : Ok Tryz.prog 24 [namedsA a, namedsA b] (.v (boolA (all2 sameN a b))) := by
  have h1 := bA.1
  simp only [Big] at h1
  (refine Ok.code hT hM (fn := Tryz.f24) rfl rfl rfl _ _ rfl rfl (Nat.le_of_ble_eq_true rfl) fun E hE hP ht h0 hrd => ?_; refine Go.run hE 9000 ?_; simp only [Tryz.f24, evX, reduceIte, reduceCtorEq, Nat.reduceLT, Nat.reduceAdd, Nat.reduceEqDiff, Nat.reduceBEq, Nat.reduceLeDiff, Nat.reduceMul, ttL, tyL, ht])
  ((first | refine SelF.byN (fun hb => ?_) (fun hb => ?_) | refine SelF.by (fun hb => ?_) (fun hb => ?_)) <;> simp only [hb, evX, reduceIte, reduceCtorEq, Nat.reduceLT, Nat.reduceAdd, Nat.reduceEqDiff, Nat.reduceBEq, Nat.reduceLeDiff, Nat.reduceMul, ttL, tyL, ht])
  · exact RetQ.bool (.inr rfl) rfl (all2_ne (by simp at hb; omega)).symm
  · have hlen : a.length = b.length := by simp at hb; omega
    refine Loop.by hE (ι := {i : Nat // i ≤ a.length ∧ all2 sameN (a.take i) (b.take i) = true}) (fun i => ⟨29, [(0, namedsA a), (1, namedsA b), (4, boolA false), (5, intA i.1)], [], [], []⟩) (fun i => a.length - i.1) ⟨0, by simp [all2]⟩ 9000 ⟨[], Wk.of rfl (by simp) (by rw [h0]; trivial) (by simp [wkT, okA, wkP, cloE, Vam.look]) (by simp [wkBs]) (by simp) (by simp)⟩ (by simp [h0]) ?_
    rintro ⟨i, hi, hall⟩
    simp only [evX, reduceIte, reduceCtorEq, Nat.reduceLT, Nat.reduceAdd, Nat.reduceEqDiff, Nat.reduceBEq, Nat.reduceLeDiff, Nat.reduceMul, ttL, tyL, ht]
    ((first | refine SelF.byN (fun hb => ?_) (fun hb => ?_) | refine SelF.by (fun hb => ?_) (fun hb => ?_)) <;> simp only [hb, evX, reduceIte, reduceCtorEq, Nat.reduceLT, Nat.reduceAdd, Nat.reduceEqDiff, Nat.reduceBEq, Nat.reduceLeDiff, Nat.reduceMul, ttL, tyL, ht])
    · simp only [decide_eq_true_eq] at hb
      have hlt : i < a.length := by omega
      have hlt2 : i < b.length := by omega
      refine IdxR.nat hE 9000 hlt rfl ?_
      simp only [evX, reduceIte, reduceCtorEq, Nat.reduceLT, Nat.reduceAdd, Nat.reduceEqDiff, Nat.reduceBEq, Nat.reduceLeDiff, Nat.reduceMul, ttL, tyL, ht]
      refine IdxR.nat hE 9000 hlt2 rfl ?_
      simp only [evX, reduceIte, reduceCtorEq, Nat.reduceLT, Nat.reduceAdd, Nat.reduceEqDiff, Nat.reduceBEq, Nat.reduceLeDiff, Nat.reduceMul, ttL, tyL, ht]
      (refine CallG.ok hE 9000 (hP ▸ ok_ref14Same a[i] b[i] (bA.2 _ (List.getElem_mem hlt))) rfl rfl ?_ <;> simp only [evX, reduceIte, reduceCtorEq, Nat.reduceLT, Nat.reduceAdd, Nat.reduceEqDiff, Nat.reduceBEq, Nat.reduceLeDiff, Nat.reduceMul, ttL, tyL, ht])
      refine ⟨by kernel_rfl, ?_⟩
      ((first | refine SelF.byN (fun hb => ?_) (fun hb => ?_) | refine SelF.by (fun hb => ?_) (fun hb => ?_)) <;> simp only [hb, evX, reduceIte, reduceCtorEq, Nat.reduceLT, Nat.reduceAdd, Nat.reduceEqDiff, Nat.reduceBEq, Nat.reduceLeDiff, Nat.reduceMul, ttL, tyL, ht])
      · exact RetQ.bool (.inr rfl) rfl (all2_at hlt hlt2 hb).symm
      · refine ⟨⟨i + 1, by omega, by rw [all2_take hlt hlt2, hall]; simpa using hb⟩, [], Wk.of rfl (by simp) (by rw [h0]; trivial) (by simp [wkT, okA, wkP, cloE, Vam.look, wrapN i (by omega)]) (by simp [wkBs]) (by simp) (by simp), by simp only; omega⟩
    · exact RetQ.bool (.inr rfl) rfl (all2_full hi (by simpa using hb) hlen hall).symm
theorem law_PatchApplies (t : List File) (bt : treeB t) (l : List Named) (bl : namedsB l) (rl : ∀ p ∈ l, namedR p) (x : Qm.Id) (rx : idR x) : Ok Tryz.prog 3 [treeA t, namedsA l, idA x] (.v (boolA true)) := by
  (refine Ok.code hT hM (fn := Tryz.f3) rfl rfl rfl _ _ rfl rfl (Nat.le_of_ble_eq_true rfl) fun E hE hP ht h0 hrd => ?_; refine Go.run hE 9000 ?_; simp only [Tryz.f3, evX, reduceIte, reduceCtorEq, Nat.reduceLT, Nat.reduceAdd, Nat.reduceEqDiff, Nat.reduceBEq, Nat.reduceLeDiff, Nat.reduceMul, ttL, tyL, ht])
  (refine CallG.ok hE 9000 (hP ▸ ok_awake14) rfl rfl ?_ <;> simp only [evX, reduceIte, reduceCtorEq, Nat.reduceLT, Nat.reduceAdd, Nat.reduceEqDiff, Nat.reduceBEq, Nat.reduceLeDiff, Nat.reduceMul, ttL, tyL, ht])
  (refine CallG.ok hE 9000 (hP ▸ ok_lightT t bt) rfl rfl ?_ <;> simp only [evX, reduceIte, reduceCtorEq, Nat.reduceLT, Nat.reduceAdd, Nat.reduceEqDiff, Nat.reduceBEq, Nat.reduceLeDiff, Nat.reduceMul, ttL, tyL, ht])
  (refine CallG.ok hE 9000 (hP ▸ ok_fewN l 12 bl) rfl rfl ?_ <;> simp only [evX, reduceIte, reduceCtorEq, Nat.reduceLT, Nat.reduceAdd, Nat.reduceEqDiff, Nat.reduceBEq, Nat.reduceLeDiff, Nat.reduceMul, ttL, tyL, ht])
  cases h1 : treeLight t <;> simp only [evX, reduceIte, reduceCtorEq, Nat.reduceLT, Nat.reduceAdd, Nat.reduceEqDiff, Nat.reduceBEq, Nat.reduceLeDiff, Nat.reduceMul, ttL, tyL, ht, Bool.not_false, Bool.not_true]
  · exact RetQ.bool (.inr rfl) rfl rfl
  cases h2 : fewN l 12 <;> simp only [evX, reduceIte, reduceCtorEq, Nat.reduceLT, Nat.reduceAdd, Nat.reduceEqDiff, Nat.reduceBEq, Nat.reduceLeDiff, Nat.reduceMul, ttL, tyL, ht, Bool.not_false, Bool.not_true]
  · exact RetQ.bool (.inr rfl) rfl rfl
  have nt := light_N bt h1
  have ll := fewN_len h2
  have lla := fewN_all h2
  (refine CallG.ok hE 9000 (hP ▸ ok_patchApply t l nt bl rl (by omega) (by decide) (by decide)) rfl rfl ?_ <;> simp only [evX, reduceIte, reduceCtorEq, Nat.reduceLT, Nat.reduceAdd, Nat.reduceEqDiff, Nat.reduceBEq, Nat.reduceLeDiff, Nat.reduceMul, ttL, tyL, ht])
  (refine CallG.ok hE 9000 (hP ▸ ok_ref14Apply t l nt bl rl (by omega) (by decide) (by decide)) rfl rfl ?_ <;> simp only [evX, reduceIte, reduceCtorEq, Nat.reduceLT, Nat.reduceAdd, Nat.reduceEqDiff, Nat.reduceBEq, Nat.reduceLeDiff, Nat.reduceMul, ttL, tyL, ht])
  have hB : treeB (runL t (allN l)).1 := (runL_N nt (allN_R rl)).B (Nat.le_trans (m := 1000 * 40) (Nat.mul_le_mul_right _ (by omega)) (by decide)) (Nat.le_trans (m := 100000 * 16) (Nat.mul_le_mul_right _ (by omega)) (by decide))
  (refine CallG.ok hE 9000 (hP ▸ ok_rTreeSame (runL t (allN l)).1 (runL t (allN l)).1 hB) rfl rfl ?_ <;> simp only [evX, reduceIte, reduceCtorEq, Nat.reduceLT, Nat.reduceAdd, Nat.reduceEqDiff, Nat.reduceBEq, Nat.reduceLeDiff, Nat.reduceMul, ttL, tyL, ht])
  simp only [treeEq_refl, evX, reduceIte, reduceCtorEq, Nat.reduceLT, Nat.reduceAdd, Nat.reduceEqDiff, Nat.reduceBEq, Nat.reduceLeDiff, Nat.reduceMul, ttL, tyL, ht]
  (refine CallG.ok hE 9000 (hP ▸ ok_All l bl (by omega)) rfl rfl ?_ <;> simp only [evX, reduceIte, reduceCtorEq, Nat.reduceLT, Nat.reduceAdd, Nat.reduceEqDiff, Nat.reduceBEq, Nat.reduceLeDiff, Nat.reduceMul, ttL, tyL, ht])
  (refine CallG.ok hE 9000 (hP ▸ ok_ref14All l bl (by omega)) rfl rfl ?_ <;> simp only [evX, reduceIte, reduceCtorEq, Nat.reduceLT, Nat.reduceAdd, Nat.reduceEqDiff, Nat.reduceBEq, Nat.reduceLeDiff, Nat.reduceMul, ttL, tyL, ht])
  (refine CallG.ok hE 9000 (hP ▸ ok_refList (allN l) (allN l) (by omega) (allN_B bl)) rfl rfl ?_ <;> simp only [evX, reduceIte, reduceCtorEq, Nat.reduceLT, Nat.reduceAdd, Nat.reduceEqDiff, Nat.reduceBEq, Nat.reduceLeDiff, Nat.reduceMul, ttL, tyL, ht])
  simp only [all2_refl, beq_self_eq_true, evX, reduceIte, reduceCtorEq, Nat.reduceLT, Nat.reduceAdd, Nat.reduceEqDiff, Nat.reduceBEq, Nat.reduceLeDiff, Nat.reduceMul, ttL, tyL, ht]
  (refine CallG.ok hE 9000 (hP ▸ ok_Find l x (by omega)) rfl rfl ?_ <;> simp only [evX, reduceIte, reduceCtorEq, Nat.reduceLT, Nat.reduceAdd, Nat.reduceEqDiff, Nat.reduceBEq, Nat.reduceLeDiff, Nat.reduceMul, ttL, tyL, ht])
  (refine CallG.ok hE 9000 (hP ▸ ok_ref14Find l x (by omega)) rfl rfl ?_ <;> simp only [evX, reduceIte, reduceCtorEq, Nat.reduceLT, Nat.reduceAdd, Nat.reduceEqDiff, Nat.reduceBEq, Nat.reduceLeDiff, Nat.reduceMul, ttL, tyL, ht])
  refine ⟨by kernel_rfl, ?_⟩
  exact RetQ.bool (.inr rfl) rfl rfl
end Go.Proofs.YtmijejoddoolpaaGreat
