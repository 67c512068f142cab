/- Changes: the document's answer; the law's first steps. -/
import Derived.Test.YtfjlopdofjbfgaaGreatTc2
import Derived.Test.YtfjlopdofjbfgaaGreatTb5
namespace Go.Proofs.YtfjlopdofjbfgaaGreat
open Go.Vam Go.Qm
set_option linter.unusedVariables false
set_option linter.unusedSimpArgs false
set_option maxRecDepth 8000

theorem ok_rMay (p : Prim) (hB : primB p) (hR : primR p) : Ok Tryz.prog 28 [primA p] (.v (boolA (mayP p))) := by
  obtain ⟨k, n, m, h⟩ := p
  have hc : (n == m) = decide (n = m) := str_beq n m
  have hc2 : (m == n) = decide (n = m) := by rw [str_beq, decide_eq_decide]; exact eq_comm
  have hc3 : (m == ⟨#[]⟩) = decide (m = ⟨#[]⟩) := str_beq m _
  (refine Ok.code hT hM (fn := Tryz.f28) rfl rfl rfl _ _ rfl rfl (Nat.le_of_ble_eq_true rfl) fun E hE hP ht h0 hrd => ?_; refine Go.run hE 9000 ?_; simp only [Tryz.f28, evX, reduceIte, reduceCtorEq, Nat.reduceLT, Nat.reduceAdd, Nat.reduceEqDiff, Nat.reduceBEq, Nat.reduceLeDiff, Nat.reduceMul, ttL, tyL, ht])
  (refine CallG.ok hE 9000 (hP ▸ ok_ref01Name n hR.name) rfl rfl ?_ <;> simp only [evX, reduceIte, reduceCtorEq, Nat.reduceLT, Nat.reduceAdd, Nat.reduceEqDiff, Nat.reduceBEq, Nat.reduceLeDiff, Nat.reduceMul, ttL, tyL, ht])
  (refine CallG.ok hE 9000 (hP ▸ ok_ref01Name m hR.to) rfl rfl ?_ <;> simp only [evX, reduceIte, reduceCtorEq, Nat.reduceLT, Nat.reduceAdd, Nat.reduceEqDiff, Nat.reduceBEq, Nat.reduceLeDiff, Nat.reduceMul, ttL, tyL, ht])
  (refine CallG.ok hE 9000 (hP ▸ ok_ref05May h hB hR.h) rfl rfl ?_ <;> simp only [evX, reduceIte, reduceCtorEq, Nat.reduceLT, Nat.reduceAdd, Nat.reduceEqDiff, Nat.reduceBEq, Nat.reduceLeDiff, Nat.reduceMul, ttL, tyL, ht])
  (refine CallG.ok hE 9000 (hP ▸ ok_ref08none h) rfl rfl ?_ <;> simp only [evX, reduceIte, reduceCtorEq, Nat.reduceLT, Nat.reduceAdd, Nat.reduceEqDiff, Nat.reduceBEq, Nat.reduceLeDiff, Nat.reduceMul, ttL, tyL, ht])
  by_cases hk : k = 0 ∨ k = 1 ∨ k = 2 ∨ k = 3 ∨ k = 4
  · rcases hk with rfl | rfl | rfl | rfl | rfl <;> simp only [evX, reduceIte, reduceCtorEq, Nat.reduceLT, Nat.reduceAdd, Nat.reduceEqDiff, Nat.reduceBEq, Nat.reduceLeDiff, Nat.reduceMul, ttL, tyL, ht, Int.reduceBEq]
    all_goals repeat' ((first | refine SelF.byN (fun hb => ?_) (fun hb => ?_) | refine SelF.by (fun hb => ?_) (fun hb => ?_)) <;> simp only [hb, evX, reduceIte, reduceCtorEq, Nat.reduceLT, Nat.reduceAdd, Nat.reduceEqDiff, Nat.reduceBEq, Nat.reduceLeDiff, Nat.reduceMul, ttL, tyL, ht])
    all_goals exact RetQ.bool (.inr rfl) rfl (by simp_all [mayP, singleP])
  · have k0 : (k == 0) = false := by rw [beq_eq_false_iff_ne]; omega
    have k1 : (k == 1) = false := by rw [beq_eq_false_iff_ne]; omega
    have k2 : (k == 2) = false := by rw [beq_eq_false_iff_ne]; omega
    have k3 : (k == 3) = false := by rw [beq_eq_false_iff_ne]; omega
    have k4 : (k == 4) = false := by rw [beq_eq_false_iff_ne]; omega
    simp only [evX, reduceIte, reduceCtorEq, Nat.reduceLT, Nat.reduceAdd, Nat.reduceEqDiff, Nat.reduceBEq, Nat.reduceLeDiff, Nat.reduceMul, ttL, tyL, ht, k0, k1, k2, k3, k4]
    exact RetQ.bool (.inr rfl) rfl (by rw [mayP, if_neg (by simp only; omega), if_neg (by simp only; omega), if_neg (by simp only; omega), if_neg (by simp only; omega)])
theorem ok_rApply (t : List File) (p : Prim) (hB : treeB t) (hP' : primB p) (hR : primR p) : Ok Tryz.prog 22 [treeA t, primA p] (.v (.tup [treeA (applyP t p).1, intA (applyP t p).2])) := by
  have hgB := treeGet_B (n := p.name) hB
  have hlen := applyH_len (treeGet t p.name).1 p.h
  have hgB' := hgB
  simp only [Big] at hgB'
  cases hm : mayP p with
  | false =>
    (refine Ok.code hT hM (fn := Tryz.f22) rfl rfl rfl _ _ rfl rfl (Nat.le_of_ble_eq_true rfl) fun E hE hP ht h0 hrd => ?_; refine Go.run hE 9000 ?_; simp only [Tryz.f22, evX, reduceIte, reduceCtorEq, Nat.reduceLT, Nat.reduceAdd, Nat.reduceEqDiff, Nat.reduceBEq, Nat.reduceLeDiff, Nat.reduceMul, ttL, tyL, ht])
    (refine CallG.ok hE 9000 (hP ▸ ok_rMay p hP' hR) rfl rfl ?_ <;> simp only [evX, reduceIte, reduceCtorEq, Nat.reduceLT, Nat.reduceAdd, Nat.reduceEqDiff, Nat.reduceBEq, Nat.reduceLeDiff, Nat.reduceMul, ttL, tyL, ht])
    simp only [hm, evX, reduceIte, reduceCtorEq, Nat.reduceLT, Nat.reduceAdd, Nat.reduceEqDiff, Nat.reduceBEq, Nat.reduceLeDiff, Nat.reduceMul, ttL, tyL, ht, Bool.not_false]
    refine RetQ.two (.inr rfl) rfl rfl rfl ?_
    rw [applyP, hm]; rfl
  | true =>
    obtain ⟨k, n, m, h⟩ := p
    have hk := mayP_kind hm
    simp only at hk hgB hgB' hlen
    (refine Ok.code hT hM (fn := Tryz.f22) rfl rfl rfl _ _ rfl rfl (Nat.le_of_ble_eq_true rfl) fun E hE hP ht h0 hrd => ?_; refine Go.run hE 9000 ?_; simp only [Tryz.f22, evX, reduceIte, reduceCtorEq, Nat.reduceLT, Nat.reduceAdd, Nat.reduceEqDiff, Nat.reduceBEq, Nat.reduceLeDiff, Nat.reduceMul, ttL, tyL, ht])
    (refine CallG.ok hE 9000 (hP ▸ ok_rMay ⟨k, n, m, h⟩ hP' hR) rfl rfl ?_ <;> simp only [evX, reduceIte, reduceCtorEq, Nat.reduceLT, Nat.reduceAdd, Nat.reduceEqDiff, Nat.reduceBEq, Nat.reduceLeDiff, Nat.reduceMul, ttL, tyL, ht])
    simp only [hm, evX, reduceIte, reduceCtorEq, Nat.reduceLT, Nat.reduceAdd, Nat.reduceEqDiff, Nat.reduceBEq, Nat.reduceLeDiff, Nat.reduceMul, ttL, tyL, ht, Bool.not_true]
    (refine CallG.ok hE 9000 (hP ▸ ok_rGet t n hB) rfl rfl ?_ <;> simp only [evX, reduceIte, reduceCtorEq, Nat.reduceLT, Nat.reduceAdd, Nat.reduceEqDiff, Nat.reduceBEq, Nat.reduceLeDiff, Nat.reduceMul, ttL, tyL, ht])
    (refine CallG.ok hE 9000 (hP ▸ ok_rGet t m hB) rfl rfl ?_ <;> simp only [evX, reduceIte, reduceCtorEq, Nat.reduceLT, Nat.reduceAdd, Nat.reduceEqDiff, Nat.reduceBEq, Nat.reduceLeDiff, Nat.reduceMul, ttL, tyL, ht])
    rcases hk with rfl | rfl | rfl | rfl | rfl <;> simp only [evX, reduceIte, reduceCtorEq, Nat.reduceLT, Nat.reduceAdd, Nat.reduceEqDiff, Nat.reduceBEq, Nat.reduceLeDiff, Nat.reduceMul, ttL, tyL, ht, Int.reduceBEq]
    · cases hg : (treeGet t n).2 <;> simp only [evX, reduceIte, reduceCtorEq, Nat.reduceLT, Nat.reduceAdd, Nat.reduceEqDiff, Nat.reduceBEq, Nat.reduceLeDiff, Nat.reduceMul, ttL, tyL, ht]
      · (refine CallG.ok hE 9000 (hP ▸ ok_rPut t n [] hB (by simp)) rfl rfl ?_ <;> simp only [evX, reduceIte, reduceCtorEq, Nat.reduceLT, Nat.reduceAdd, Nat.reduceEqDiff, Nat.reduceBEq, Nat.reduceLeDiff, Nat.reduceMul, ttL, tyL, ht])
        refine RetQ.two (.inr rfl) rfl rfl rfl ?_
        rw [applyP, hm]; simp only [if_true, addT, hg]; rfl
      · refine RetQ.two (.inr rfl) rfl rfl rfl ?_
        rw [applyP, hm]; simp only [if_true, addT, hg]; rfl
    · cases hg : (treeGet t n).2 <;> simp only [evX, reduceIte, reduceCtorEq, Nat.reduceLT, Nat.reduceAdd, Nat.reduceEqDiff, Nat.reduceBEq, Nat.reduceLeDiff, Nat.reduceMul, ttL, tyL, ht, Bool.not_false, Bool.not_true, Int.reduceBEq]
      · refine RetQ.two (.inr rfl) rfl rfl rfl ?_
        rw [applyP, hm]; simp only [if_true, rmT, hg]; rfl
      · ((first | refine SelF.byN (fun hb => ?_) (fun hb => ?_) | refine SelF.by (fun hb => ?_) (fun hb => ?_)) <;> simp only [hb, evX, reduceIte, reduceCtorEq, Nat.reduceLT, Nat.reduceAdd, Nat.reduceEqDiff, Nat.reduceBEq, Nat.reduceLeDiff, Nat.reduceMul, ttL, tyL, ht])
        · have h0 : (treeGet t n).1.length ≠ 0 := by have := of_decide_eq_true hb; omega
          refine RetQ.two (.inr rfl) rfl rfl rfl ?_
          rw [applyP, hm]; simp only [if_true, rmT, hg, h0]; rfl
        · have h0 : (treeGet t n).1.length = 0 := by have := of_decide_eq_false hb; omega
          (refine CallG.ok hE 9000 (hP ▸ ok_rDel t n hB) rfl rfl ?_ <;> simp only [evX, reduceIte, reduceCtorEq, Nat.reduceLT, Nat.reduceAdd, Nat.reduceEqDiff, Nat.reduceBEq, Nat.reduceLeDiff, Nat.reduceMul, ttL, tyL, ht])
          refine RetQ.two (.inr rfl) rfl rfl rfl ?_
          rw [applyP, hm]; simp only [if_true, rmT, hg, h0]; rfl
    · cases hg : (treeGet t n).2 <;> simp only [evX, reduceIte, reduceCtorEq, Nat.reduceLT, Nat.reduceAdd, Nat.reduceEqDiff, Nat.reduceBEq, Nat.reduceLeDiff, Nat.reduceMul, ttL, tyL, ht, Bool.not_false, Bool.not_true, Int.reduceBEq]
      · refine RetQ.two (.inr rfl) rfl rfl rfl ?_
        rw [applyP, hm]; simp only [if_true, moveT, hg]; rfl
      · cases hg2 : (treeGet t m).2 <;> simp only [evX, reduceIte, reduceCtorEq, Nat.reduceLT, Nat.reduceAdd, Nat.reduceEqDiff, Nat.reduceBEq, Nat.reduceLeDiff, Nat.reduceMul, ttL, tyL, ht, Bool.not_false, Bool.not_true]
        · (refine CallG.ok hE 9000 (hP ▸ ok_rDel t n hB) rfl rfl ?_ <;> simp only [evX, reduceIte, reduceCtorEq, Nat.reduceLT, Nat.reduceAdd, Nat.reduceEqDiff, Nat.reduceBEq, Nat.reduceLeDiff, Nat.reduceMul, ttL, tyL, ht])
          (refine CallG.ok hE 9000 (hP ▸ ok_rPut (treeDel t n) m (treeGet t n).1 (treeB_del hB) (by omega)) rfl rfl ?_ <;> simp only [evX, reduceIte, reduceCtorEq, Nat.reduceLT, Nat.reduceAdd, Nat.reduceEqDiff, Nat.reduceBEq, Nat.reduceLeDiff, Nat.reduceMul, ttL, tyL, ht])
          refine ⟨by kernel_rfl, ?_⟩
          refine RetQ.two (.inr rfl) rfl rfl rfl ?_
          rw [applyP, hm]; simp only [if_true, moveT, hg, hg2]; rfl
        · refine RetQ.two (.inr rfl) rfl rfl rfl ?_
          rw [applyP, hm]; simp only [if_true, moveT, hg, hg2]; rfl
    · cases hg : (treeGet t n).2 <;> simp only [evX, reduceIte, reduceCtorEq, Nat.reduceLT, Nat.reduceAdd, Nat.reduceEqDiff, Nat.reduceBEq, Nat.reduceLeDiff, Nat.reduceMul, ttL, tyL, ht, Bool.not_false, Bool.not_true, Int.reduceBEq]
      · refine RetQ.two (.inr rfl) rfl rfl rfl ?_
        rw [applyP, hm]; simp only [if_true, patchT, hg]; rfl
      · (refine CallG.ok hE 9000 (hP ▸ ok_ref05Apply (treeGet t n).1 h hgB hP' hR.h) rfl rfl ?_ <;> simp only [evX, reduceIte, reduceCtorEq, Nat.reduceLT, Nat.reduceAdd, Nat.reduceEqDiff, Nat.reduceBEq, Nat.reduceLeDiff, Nat.reduceMul, ttL, tyL, ht])
        ((first | refine SelF.byN (fun hb => ?_) (fun hb => ?_) | refine SelF.by (fun hb => ?_) (fun hb => ?_)) <;> simp only [hb, evX, reduceIte, reduceCtorEq, Nat.reduceLT, Nat.reduceAdd, Nat.reduceEqDiff, Nat.reduceBEq, Nat.reduceLeDiff, Nat.reduceMul, ttL, tyL, ht])
        · have h0 : (applyH (treeGet t n).1 h).2 ≠ 0 := by simpa using hb
          refine RetQ.two (.inr rfl) rfl rfl rfl ?_
          rw [applyP, hm]; simp only [if_true, patchT, hg, if_neg h0]; rfl
        · have h0 : (applyH (treeGet t n).1 h).2 = 0 := by simpa using hb
          (refine CallG.ok hE 9000 (hP ▸ ok_rPut t n (applyH (treeGet t n).1 h).1 hB (by omega)) rfl rfl ?_ <;> simp only [evX, reduceIte, reduceCtorEq, Nat.reduceLT, Nat.reduceAdd, Nat.reduceEqDiff, Nat.reduceBEq, Nat.reduceLeDiff, Nat.reduceMul, ttL, tyL, ht])
          refine RetQ.two (.inr rfl) rfl rfl rfl ?_
          rw [applyP, hm]; simp only [if_true, patchT, hg, if_pos h0]; rfl
    · cases hg : (treeGet t n).2 <;> simp only [evX, reduceIte, reduceCtorEq, Nat.reduceLT, Nat.reduceAdd, Nat.reduceEqDiff, Nat.reduceBEq, Nat.reduceLeDiff, Nat.reduceMul, ttL, tyL, ht, Bool.not_false, Bool.not_true, Int.reduceBEq]
      · refine RetQ.two (.inr rfl) rfl rfl rfl ?_
        rw [applyP, hm]; simp only [if_true, setT, hg]; rfl
      · (refine CallG.ok hE 9000 (hP ▸ ok_refSame (treeGet t n).1 h.old (by omega)) rfl rfl ?_ <;> simp only [evX, reduceIte, reduceCtorEq, Nat.reduceLT, Nat.reduceAdd, Nat.reduceEqDiff, Nat.reduceBEq, Nat.reduceLeDiff, Nat.reduceMul, ttL, tyL, ht])
        cases he : strsEq (treeGet t n).1 h.old <;> simp only [evX, reduceIte, reduceCtorEq, Nat.reduceLT, Nat.reduceAdd, Nat.reduceEqDiff, Nat.reduceBEq, Nat.reduceLeDiff, Nat.reduceMul, ttL, tyL, ht, Bool.not_false, Bool.not_true]
        · have hne : (treeGet t n).1 ≠ h.old := fun e => by rw [strsEq_iff.2 e] at he; simp at he
          refine RetQ.two (.inr rfl) rfl rfl rfl ?_
          rw [applyP, hm]; simp only [if_true, setT, hg, hne, and_false, if_false]; rfl
        · have hne : (treeGet t n).1 = h.old := strsEq_iff.1 he
          (refine CallG.ok hE 9000 (hP ▸ ok_rPut t n h.new hB hP'.2) rfl rfl ?_ <;> simp only [evX, reduceIte, reduceCtorEq, Nat.reduceLT, Nat.reduceAdd, Nat.reduceEqDiff, Nat.reduceBEq, Nat.reduceLeDiff, Nat.reduceMul, ttL, tyL, ht])
          refine RetQ.two (.inr rfl) rfl rfl rfl ?_
          rw [applyP, hm]; simp only [if_true, setT, hg, hne, and_true, if_true]; rfl
def aw8p : Prim := ⟨0, ⟨#[97]⟩, ⟨#[]⟩, ⟨0, [], []⟩⟩
def aw8q : Prim := ⟨3, ⟨#[97]⟩, ⟨#[]⟩, ⟨0, [], [⟨#[120]⟩]⟩⟩
theorem aw8a : applyP [] aw8p = ([⟨⟨#[97]⟩, []⟩], 0) := by kernel_rfl
theorem aw8b : applyP [⟨⟨#[97]⟩, []⟩] aw8q = ([⟨⟨#[97]⟩, [⟨#[120]⟩]⟩], 0) := by kernel_rfl
end Go.Proofs.YtfjlopdofjbfgaaGreat
