/- Trees: the document's functions upon them; which trees may be. -/
import Derived.Test.YtmijejoddoolpaaTb2
import Derived.Test.YtmijejoddoolpaaTa2
import Derived.Test.YtmijejoddoolpaaG10
namespace Go.Proofs.Ytmijejoddoolpaa
open Go.Vam Go.Qm
set_option linter.unusedVariables false
set_option linter.unusedSimpArgs false
set_option maxRecDepth 8000

theorem findIdx_in {t : List File} {n : Str} (h : t.any (isN n) = true) : t.findIdx (isN n) < t.length := by have := findIdx_lt (t := t) (f := isN n); rw [h] at this; simpa using this
theorem mapIdx_at {t : List File} {i : Nat} (h : i < t.length) (hf : fileMay t i t[i] = false) : treeMay t = false := by
  unfold treeMay
  have : (t.mapIdx (fileMay t)).all id = false := by
    rw [List.all_eq_false]
    exact ⟨_, List.mem_mapIdx.2 ⟨i, h, rfl⟩, by simp [hf]⟩
  rw [this]; rfl
theorem may_step {t : List File} {i : Nat} {hlt : i < t.length} (hall : ∀ (j : Nat) (hj : j < t.length), j < i → fileMay t j t[j] = true) (h : fileMay t i t[i] = true) : ∀ (j : Nat) (hj : j < t.length), j < i + 1 → fileMay t j t[j] = true := fun j hj hji => by
  rcases Nat.lt_succ_iff_lt_or_eq.1 hji with h' | h'
  · exact hall j hj h'
  · subst h'
    exact h
theorem treeMay_all {t : List File} (h : ∀ (i : Nat) (hi : i < t.length), fileMay t i t[i] = true) : treeMay t = decide ((t.length : Int) ≤ 30) := by
  unfold treeMay
  have : (t.mapIdx (fileMay t)).all id = true := by
    rw [List.all_eq_true]
    intro x hx
    obtain ⟨i, hi, rfl⟩ := List.mem_mapIdx.1 hx
    exact h i hi
  rw [this, Bool.true_and]
theorem ok_treeMay (t : List File) (hB : treeB t) : Ok Try.prog 23 [treeA t] (.v (boolA (treeMay t))) := by
  have hl : t.length * 40 ≤ 140737488351232 := hB.1
  (refine Ok.code hT hM (fn := Try.f23) rfl rfl rfl _ _ rfl rfl (Nat.le_of_ble_eq_true rfl) fun E hE hP ht h0 hrd => ?_; refine Go.run hE 9000 ?_; simp only [Try.f23, evX, reduceIte, reduceCtorEq, Nat.reduceLT, Nat.reduceAdd, Nat.reduceEqDiff, Nat.reduceBEq, Nat.reduceLeDiff, Nat.reduceMul, ttL, tyL, ht])
  refine Loop.by hE (ι := {i : Nat // i ≤ t.length ∧ ∀ (j : Nat) (hj : j < t.length), j < i → fileMay t j t[j] = true}) (fun i => ⟨41, [(0, treeA t), (5, treeA t), (6, intA t.length), (7, intA i.1)], [], [], []⟩) (fun i => t.length - i.1) ⟨0, by simp⟩ 9000 ⟨[], Wk.of rfl (by simp) (by rw [h0]; simp [fixB]) (by simp [wkT, okA, wkP, cloE, Vam.look, sig, ]) (by simp [wkBs, setBx, nthB, wkBx, wkL, okA, wkP, cloE, sig, ]) (by simp) (by simp)⟩ (by simp [h0]) ?_
  rintro ⟨i, hi, hall⟩
  simp only [evX, reduceIte, reduceCtorEq, Nat.reduceLT, Nat.reduceAdd, Nat.reduceEqDiff, Nat.reduceBEq, Nat.reduceLeDiff, Nat.reduceMul, ttL, tyL, ht]
  ((first | refine SelF.byN (fun hb => ?_) (fun hb => ?_) | refine SelF.by (fun hb => ?_) (fun hb => ?_)) <;> simp only [hb, evX, reduceIte, reduceCtorEq, Nat.reduceLT, Nat.reduceAdd, Nat.reduceEqDiff, Nat.reduceBEq, Nat.reduceLeDiff, Nat.reduceMul, ttL, tyL, ht])
  · simp only [decide_eq_true_eq] at hb
    have hlt : i < t.length := by omega
    refine IdxR.nat hE 9000 hlt rfl ?_
    simp only [evX, reduceIte, reduceCtorEq, Nat.reduceLT, Nat.reduceAdd, Nat.reduceEqDiff, Nat.reduceBEq, Nat.reduceLeDiff, Nat.reduceMul, ttL, tyL, ht]
    (refine StG.by hE ht 9000 rfl ?_ <;> simp only [evX, reduceIte, reduceCtorEq, Nat.reduceLT, Nat.reduceAdd, Nat.reduceEqDiff, Nat.reduceBEq, Nat.reduceLeDiff, Nat.reduceMul, ttL, tyL, ht])
    have hf := hB.2 _ (List.getElem_mem hlt)
    have hll : t[i].lines.length < 9223372036854775807 := by have := hf.len; simp only [Big] at this; omega
    (refine CallG.ok hE 9000 (hP ▸ ok_textName t[i].name hf.name) rfl rfl ?_ <;> simp only [evX, reduceIte, reduceCtorEq, Nat.reduceLT, Nat.reduceAdd, Nat.reduceEqDiff, Nat.reduceBEq, Nat.reduceLeDiff, Nat.reduceMul, ttL, tyL, ht])
    repeat' (first | (refine CallG.ok hE 9000 (hP ▸ ok_textAll t[i].lines) rfl rfl ?_ <;> simp only [evX, reduceIte, reduceCtorEq, Nat.reduceLT, Nat.reduceAdd, Nat.reduceEqDiff, Nat.reduceBEq, Nat.reduceLeDiff, Nat.reduceMul, ttL, tyL, ht]) | ((first | refine SelF.byN (fun hb => ?_) (fun hb => ?_) | refine SelF.by (fun hb => ?_) (fun hb => ?_)) <;> simp only [hb, evX, reduceIte, reduceCtorEq, Nat.reduceLT, Nat.reduceAdd, Nat.reduceEqDiff, Nat.reduceBEq, Nat.reduceLeDiff, Nat.reduceMul, ttL, tyL, ht]))
    · have hi0 : 0 < i := by simpa using hb
      have hw : IntKind.i64.wrap ((i : Int) - 1) = ((i - 1 : Nat) : Int) := by rw [IntKind.wrap_i64]; omega
      have hlt' : i - 1 < t.length := by omega
      simp only [hw]
      refine IdxR.nat hE 9000 hlt' rfl ?_
      simp only [evX, reduceIte, reduceCtorEq, Nat.reduceLT, Nat.reduceAdd, Nat.reduceEqDiff, Nat.reduceBEq, Nat.reduceLeDiff, Nat.reduceMul, ttL, tyL, ht]
      refine ⟨by kernel_rfl, ?_⟩
      have hle : strLe t[i].name ((t[i - 1]?).map (·.name)|>.getD ⟨#[]⟩) = (Op.bytesLess t[i].name.toList t[i - 1].name.toList || t[i].name == t[i - 1].name) := by rw [List.getElem?_eq_getElem hlt']; rfl
      ((first | refine SelF.byN (fun hb => ?_) (fun hb => ?_) | refine SelF.by (fun hb => ?_) (fun hb => ?_)) <;> simp only [hb, evX, reduceIte, reduceCtorEq, Nat.reduceLT, Nat.reduceAdd, Nat.reduceEqDiff, Nat.reduceBEq, Nat.reduceLeDiff, Nat.reduceMul, ttL, tyL, ht])
      · exact RetQ.bool (.inr rfl) rfl (mapIdx_at hlt (by rw [fileMay, hle, hb]; simp [hi0])).symm
      · refine ⟨⟨i + 1, by omega, may_step (hlt := hlt) hall (by rw [fileMay, hle, hb]; simp_all)⟩, [], Wk.of rfl (by simp) (by rw [h0]; simp [fixB]) (by simp [wkT, okA, wkP, cloE, Vam.look, sig, wrapN i (by omega)]) (by simp [wkBs, setBx, nthB, wkBx, wkL, okA, wkP, cloE, sig, wrapN i (by omega)]) (by simp) (by simp), by simp only; omega⟩
    · refine ⟨by kernel_rfl, ?_⟩
      refine ⟨⟨i + 1, by omega, may_step (hlt := hlt) hall (by rw [fileMay]; simp_all)⟩, [], Wk.of rfl (by simp) (by rw [h0]; simp [fixB]) (by simp [wkT, okA, wkP, cloE, Vam.look, sig, wrapN i (by omega)]) (by simp [wkBs, setBx, nthB, wkBx, wkL, okA, wkP, cloE, sig, wrapN i (by omega)]) (by simp) (by simp), by simp only; omega⟩
    · refine ⟨by kernel_rfl, ?_⟩
      exact RetQ.bool (.inr rfl) rfl (mapIdx_at hlt (by rw [fileMay]; simp_all)).symm
    · refine ⟨by kernel_rfl, ?_⟩
      exact RetQ.bool (.inr rfl) rfl (mapIdx_at hlt (by rw [fileMay]; simp_all)).symm
  · exact RetQ.bool (.inr rfl) rfl (treeMay_all fun j hj => hall j hj (by simp at hb; omega)).symm
end Go.Proofs.Ytmijejoddoolpaa
