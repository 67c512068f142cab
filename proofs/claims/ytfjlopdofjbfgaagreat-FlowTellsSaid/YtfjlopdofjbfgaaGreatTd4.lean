/- Changes that pass one another: the document's answer. -/
import Derived.Test.YtfjlopdofjbfgaaGreatTd3
namespace Go.Proofs.YtfjlopdofjbfgaaGreat
open Go.Vam Go.Qm
set_option linter.unusedVariables false
set_option linter.unusedSimpArgs false
set_option maxRecDepth 8000
set_option maxHeartbeats 2000000

theorem ok_ref09Pass (p q : Prim) (bP : primB p) (bQ : primB q) (rP : primR p) (rQ : primR q) : Ok Tryz.prog 54 [primA p, primA q] (.v (.tup [primA (passPT p q).1, primA (passPT p q).2.1, boolA (passPT p q).2.2])) := by
  by_cases hm : mayP p = true ∧ mayP q = true
  · obtain ⟨h1, h2⟩ := hm
    (refine Ok.code hT hM (fn := Tryz.f54) rfl rfl rfl _ _ rfl rfl (Nat.le_of_ble_eq_true rfl) fun E hE hP ht h0 hrd => ?_; refine Go.run hE 9000 ?_; simp only [Tryz.f54, evX, reduceIte, reduceCtorEq, Nat.reduceLT, Nat.reduceAdd, Nat.reduceEqDiff, Nat.reduceBEq, Nat.reduceLeDiff, Nat.reduceMul, ttL, tyL, ht])
    (refine StG.by hE ht 9000 rfl ?_ <;> simp only [evX, reduceIte, reduceCtorEq, Nat.reduceLT, Nat.reduceAdd, Nat.reduceEqDiff, Nat.reduceBEq, Nat.reduceLeDiff, Nat.reduceMul, ttL, tyL, ht])
    (refine CallG.ok hE 9000 (hP ▸ ok_rMay p bP rP) rfl rfl ?_ <;> simp only [evX, reduceIte, reduceCtorEq, Nat.reduceLT, Nat.reduceAdd, Nat.reduceEqDiff, Nat.reduceBEq, Nat.reduceLeDiff, Nat.reduceMul, ttL, tyL, ht])
    (refine CallG.ok hE 9000 (hP ▸ ok_rMay q bQ rQ) rfl rfl ?_ <;> simp only [evX, reduceIte, reduceCtorEq, Nat.reduceLT, Nat.reduceAdd, Nat.reduceEqDiff, Nat.reduceBEq, Nat.reduceLeDiff, Nat.reduceMul, ttL, tyL, ht])
    simp only [h1, h2, evX, reduceIte, reduceCtorEq, Nat.reduceLT, Nat.reduceAdd, Nat.reduceEqDiff, Nat.reduceBEq, Nat.reduceLeDiff, Nat.reduceMul, ttL, tyL, ht, Bool.not_true]
    (refine CallG.ok hE 9000 (hP ▸ ok_rapart p q) rfl rfl ?_ <;> simp only [evX, reduceIte, reduceCtorEq, Nat.reduceLT, Nat.reduceAdd, Nat.reduceEqDiff, Nat.reduceBEq, Nat.reduceLeDiff, Nat.reduceMul, ttL, tyL, ht])
    cases ha : apartP p q <;> simp only [evX, reduceIte, reduceCtorEq, Nat.reduceLT, Nat.reduceAdd, Nat.reduceEqDiff, Nat.reduceBEq, Nat.reduceLeDiff, Nat.reduceMul, ttL, tyL, ht]
    · have i0 : ¬ apartP p q = true := by rw [ha]; simp
      have hbs : (q.name == p.to) = decide (q.name = p.to) := str_beq _ _
      have hbs2 : (p.name == q.name) = decide (p.name = q.name) := str_beq _ _
      by_cases k3 : p.kind = 3 ∧ q.kind = 3
      · have ka : (p.kind == 3) = true := by simpa using k3.1
        have kb : (q.kind == 3) = true := by simpa using k3.2
        simp only [ka, kb, evX, reduceIte, reduceCtorEq, Nat.reduceLT, Nat.reduceAdd, Nat.reduceEqDiff, Nat.reduceBEq, Nat.reduceLeDiff, Nat.reduceMul, ttL, tyL, ht]
        (refine CallG.ok hE 9000 (hP ▸ ok_ref06Pass p.h q.h bP bQ rP.h rQ.h) rfl rfl ?_ <;> simp only [evX, reduceIte, reduceCtorEq, Nat.reduceLT, Nat.reduceAdd, Nat.reduceEqDiff, Nat.reduceBEq, Nat.reduceLeDiff, Nat.reduceMul, ttL, tyL, ht])
        cases hs : passH p.h q.h with
        | none =>
          have e' : passHT p.h q.h = (hunkZ, hunkZ, false) := by rw [passHT, hs]
          have e : passPT p q = (primZ, primZ, false) := by rw [passPT, passP, if_pos ⟨h1, h2⟩, if_neg i0, if_pos k3, hs]; rfl
          simp only [e', evX, reduceIte, reduceCtorEq, Nat.reduceLT, Nat.reduceAdd, Nat.reduceEqDiff, Nat.reduceBEq, Nat.reduceLeDiff, Nat.reduceMul, ttL, tyL, ht]
          (refine StG.by hE ht 9000 rfl ?_ <;> simp only [evX, reduceIte, reduceCtorEq, Nat.reduceLT, Nat.reduceAdd, Nat.reduceEqDiff, Nat.reduceBEq, Nat.reduceLeDiff, Nat.reduceMul, ttL, tyL, ht])
          (refine StG.by hE ht 9000 rfl ?_ <;> simp only [evX, reduceIte, reduceCtorEq, Nat.reduceLT, Nat.reduceAdd, Nat.reduceEqDiff, Nat.reduceBEq, Nat.reduceLeDiff, Nat.reduceMul, ttL, tyL, ht])
          (refine StG.byX hE ht 9000 rfl rfl ?_ <;> simp only [evX, reduceIte, reduceCtorEq, Nat.reduceLT, Nat.reduceAdd, Nat.reduceEqDiff, Nat.reduceBEq, Nat.reduceLeDiff, Nat.reduceMul, ttL, tyL, ht])
          (refine StG.byX hE ht 9000 rfl rfl ?_ <;> simp only [evX, reduceIte, reduceCtorEq, Nat.reduceLT, Nat.reduceAdd, Nat.reduceEqDiff, Nat.reduceBEq, Nat.reduceLeDiff, Nat.reduceMul, ttL, tyL, ht])
          refine ⟨by kernel_rfl, ?_⟩
          rw [e]
          exact RetQ.cct (.inr rfl) (cellV rfl rfl rfl rfl rfl rfl rfl rfl rfl) (cellV rfl rfl rfl rfl rfl rfl rfl rfl rfl) rfl rfl
        | some r =>
          have e' : passHT p.h q.h = (r.1, r.2, true) := by rw [passHT, hs]
          have e : passPT p q = (⟨q.kind, q.name, q.to, r.1⟩, ⟨p.kind, p.name, p.to, r.2⟩, true) := by rw [passPT, passP, if_pos ⟨h1, h2⟩, if_neg i0, if_pos k3, hs]; rfl
          simp only [e', evX, reduceIte, reduceCtorEq, Nat.reduceLT, Nat.reduceAdd, Nat.reduceEqDiff, Nat.reduceBEq, Nat.reduceLeDiff, Nat.reduceMul, ttL, tyL, ht]
          (refine StG.by hE ht 9000 rfl ?_ <;> simp only [evX, reduceIte, reduceCtorEq, Nat.reduceLT, Nat.reduceAdd, Nat.reduceEqDiff, Nat.reduceBEq, Nat.reduceLeDiff, Nat.reduceMul, ttL, tyL, ht])
          (refine StG.by hE ht 9000 rfl ?_ <;> simp only [evX, reduceIte, reduceCtorEq, Nat.reduceLT, Nat.reduceAdd, Nat.reduceEqDiff, Nat.reduceBEq, Nat.reduceLeDiff, Nat.reduceMul, ttL, tyL, ht])
          (refine StG.by hE ht 9000 rfl ?_ <;> simp only [evX, reduceIte, reduceCtorEq, Nat.reduceLT, Nat.reduceAdd, Nat.reduceEqDiff, Nat.reduceBEq, Nat.reduceLeDiff, Nat.reduceMul, ttL, tyL, ht])
          (refine StG.by hE ht 9000 rfl ?_ <;> simp only [evX, reduceIte, reduceCtorEq, Nat.reduceLT, Nat.reduceAdd, Nat.reduceEqDiff, Nat.reduceBEq, Nat.reduceLeDiff, Nat.reduceMul, ttL, tyL, ht])
          (refine StG.byX hE ht 9000 rfl rfl ?_ <;> simp only [evX, reduceIte, reduceCtorEq, Nat.reduceLT, Nat.reduceAdd, Nat.reduceEqDiff, Nat.reduceBEq, Nat.reduceLeDiff, Nat.reduceMul, ttL, tyL, ht])
          (refine StG.byX hE ht 9000 rfl rfl ?_ <;> simp only [evX, reduceIte, reduceCtorEq, Nat.reduceLT, Nat.reduceAdd, Nat.reduceEqDiff, Nat.reduceBEq, Nat.reduceLeDiff, Nat.reduceMul, ttL, tyL, ht])
          refine ⟨by kernel_rfl, ?_⟩
          rw [e]
          exact RetQ.cct (.inr rfl) (cellV rfl rfl rfl rfl rfl rfl rfl rfl rfl) (cellV rfl rfl rfl rfl rfl rfl rfl rfl rfl) rfl rfl
      · have hg : ((p.kind == 3) = true ∧ (q.kind == 3) = false) ∨ (p.kind == 3) = false := by
          by_cases u : p.kind = 3
          · exact .inl ⟨by simpa using u, by simpa using fun v => k3 ⟨u, v⟩⟩
          · exact .inr (by simpa using u)
        rcases hg with ⟨ka, kb⟩ | ka <;> simp only [ka, *, evX, reduceIte, reduceCtorEq, Nat.reduceLT, Nat.reduceAdd, Nat.reduceEqDiff, Nat.reduceBEq, Nat.reduceLeDiff, Nat.reduceMul, ttL, tyL, ht]
        all_goals
          (refine CallG.ok hE 9000 (hP ▸ ok_rlines p) rfl rfl ?_ <;> simp only [evX, reduceIte, reduceCtorEq, Nat.reduceLT, Nat.reduceAdd, Nat.reduceEqDiff, Nat.reduceBEq, Nat.reduceLeDiff, Nat.reduceMul, ttL, tyL, ht])
          (refine CallG.ok hE 9000 (hP ▸ ok_rlines q) rfl rfl ?_ <;> simp only [evX, reduceIte, reduceCtorEq, Nat.reduceLT, Nat.reduceAdd, Nat.reduceEqDiff, Nat.reduceBEq, Nat.reduceLeDiff, Nat.reduceMul, ttL, tyL, ht])
          by_cases m1 : p.kind = 2 ∧ linesP q = true ∧ q.name = p.to
          · have ma : (p.kind == 2) = true := by simpa using m1.1
            have mb : (q.name == p.to) = true := by rw [hbs]; simpa using m1.2.2
            have e : passPT p q = (⟨q.kind, p.name, q.to, q.h⟩, p, true) := by rw [passPT, passP, if_pos ⟨h1, h2⟩, if_neg i0, if_neg k3, if_pos m1]
            simp only [ma, mb, m1.2.1, evX, reduceIte, reduceCtorEq, Nat.reduceLT, Nat.reduceAdd, Nat.reduceEqDiff, Nat.reduceBEq, Nat.reduceLeDiff, Nat.reduceMul, ttL, tyL, ht]
            (refine StG.by hE ht 9000 rfl ?_ <;> simp only [evX, reduceIte, reduceCtorEq, Nat.reduceLT, Nat.reduceAdd, Nat.reduceEqDiff, Nat.reduceBEq, Nat.reduceLeDiff, Nat.reduceMul, ttL, tyL, ht])
            (refine StG.byX hE ht 9000 rfl rfl ?_ <;> simp only [evX, reduceIte, reduceCtorEq, Nat.reduceLT, Nat.reduceAdd, Nat.reduceEqDiff, Nat.reduceBEq, Nat.reduceLeDiff, Nat.reduceMul, ttL, tyL, ht])
            (refine StG.byX hE ht 9000 rfl rfl ?_ <;> simp only [evX, reduceIte, reduceCtorEq, Nat.reduceLT, Nat.reduceAdd, Nat.reduceEqDiff, Nat.reduceBEq, Nat.reduceLeDiff, Nat.reduceMul, ttL, tyL, ht])
            refine ⟨by kernel_rfl, ?_⟩
            rw [e]
            exact RetQ.cct (.inr rfl) (cellV rfl rfl rfl rfl rfl rfl rfl rfl rfl) (cellV rfl rfl rfl rfl rfl rfl rfl rfl rfl) rfl rfl
          · by_cases m2 : q.kind = 2 ∧ linesP p = true ∧ p.name = q.name
            · have ma : (q.kind == 2) = true := by simpa using m2.1
              have mb : (p.name == q.name) = true := by rw [hbs2]; simpa using m2.2.2
              have mc : (p.kind == 2) = false := by have := m2.2.1; simp [linesP] at this; simp; omega
              have e : passPT p q = (q, ⟨p.kind, q.to, p.to, p.h⟩, true) := by rw [passPT, passP, if_pos ⟨h1, h2⟩, if_neg i0, if_neg k3, if_neg m1, if_pos m2]
              simp only [ma, mb, mc, m2.2.1, evX, reduceIte, reduceCtorEq, Nat.reduceLT, Nat.reduceAdd, Nat.reduceEqDiff, Nat.reduceBEq, Nat.reduceLeDiff, Nat.reduceMul, ttL, tyL, ht]
              (refine StG.by hE ht 9000 rfl ?_ <;> simp only [evX, reduceIte, reduceCtorEq, Nat.reduceLT, Nat.reduceAdd, Nat.reduceEqDiff, Nat.reduceBEq, Nat.reduceLeDiff, Nat.reduceMul, ttL, tyL, ht])
              (refine StG.byX hE ht 9000 rfl rfl ?_ <;> simp only [evX, reduceIte, reduceCtorEq, Nat.reduceLT, Nat.reduceAdd, Nat.reduceEqDiff, Nat.reduceBEq, Nat.reduceLeDiff, Nat.reduceMul, ttL, tyL, ht])
              (refine StG.byX hE ht 9000 rfl rfl ?_ <;> simp only [evX, reduceIte, reduceCtorEq, Nat.reduceLT, Nat.reduceAdd, Nat.reduceEqDiff, Nat.reduceBEq, Nat.reduceLeDiff, Nat.reduceMul, ttL, tyL, ht])
              refine ⟨by kernel_rfl, ?_⟩
              rw [e]
              exact RetQ.cct (.inr rfl) (cellV rfl rfl rfl rfl rfl rfl rfl rfl rfl) (cellV rfl rfl rfl rfl rfl rfl rfl rfl rfl) rfl rfl
            · have n1 : (p.kind == 2) = false ∨ ((p.kind == 2) = true ∧ linesP q = false) ∨ ((p.kind == 2) = true ∧ linesP q = true ∧ decide (q.name = p.to) = false) := by
                cases u : (p.kind == 2)
                · exact .inl rfl
                · cases v : linesP q
                  · exact .inr (.inl ⟨rfl, rfl⟩)
                  · exact .inr (.inr ⟨rfl, rfl, by simpa using fun w => m1 ⟨by simpa using u, v, w⟩⟩)
              have n2 : (q.kind == 2) = false ∨ ((q.kind == 2) = true ∧ linesP p = false) ∨ ((q.kind == 2) = true ∧ linesP p = true ∧ decide (p.name = q.name) = false) := by
                cases u : (q.kind == 2)
                · exact .inl rfl
                · cases v : linesP p
                  · exact .inr (.inl ⟨rfl, rfl⟩)
                  · exact .inr (.inr ⟨rfl, rfl, by simpa using fun w => m2 ⟨by simpa using u, v, w⟩⟩)
              rcases n1 with n1 | ⟨n1, n1'⟩ | ⟨n1, n1', n1''⟩ <;> simp only [*, evX, reduceIte, reduceCtorEq, Nat.reduceLT, Nat.reduceAdd, Nat.reduceEqDiff, Nat.reduceBEq, Nat.reduceLeDiff, Nat.reduceMul, ttL, tyL, ht] <;> rcases n2 with n2 | ⟨n2, n2'⟩ | ⟨n2, n2', n2''⟩ <;> try simp only [*, evX, reduceIte, reduceCtorEq, Nat.reduceLT, Nat.reduceAdd, Nat.reduceEqDiff, Nat.reduceBEq, Nat.reduceLeDiff, Nat.reduceMul, ttL, tyL, ht]
              all_goals
                have e : passPT p q = (primZ, primZ, false) := by rw [passPT, passP, if_pos ⟨h1, h2⟩, if_neg i0, if_neg k3, if_neg m1, if_neg m2]
                (refine StG.byX hE ht 9000 rfl rfl ?_ <;> simp only [evX, reduceIte, reduceCtorEq, Nat.reduceLT, Nat.reduceAdd, Nat.reduceEqDiff, Nat.reduceBEq, Nat.reduceLeDiff, Nat.reduceMul, ttL, tyL, ht])
                (refine StG.byX hE ht 9000 rfl rfl ?_ <;> simp only [evX, reduceIte, reduceCtorEq, Nat.reduceLT, Nat.reduceAdd, Nat.reduceEqDiff, Nat.reduceBEq, Nat.reduceLeDiff, Nat.reduceMul, ttL, tyL, ht])
                refine ⟨by kernel_rfl, ?_⟩
                rw [e]
                exact RetQ.cct (.inr rfl) (cellV rfl rfl rfl rfl rfl rfl rfl rfl rfl) (cellV rfl rfl rfl rfl rfl rfl rfl rfl rfl) rfl rfl
    · have e : passPT p q = (q, p, true) := by rw [passPT, passP, if_pos ⟨h1, h2⟩, if_pos ha]
      (refine StG.byX hE ht 9000 rfl rfl ?_ <;> simp only [evX, reduceIte, reduceCtorEq, Nat.reduceLT, Nat.reduceAdd, Nat.reduceEqDiff, Nat.reduceBEq, Nat.reduceLeDiff, Nat.reduceMul, ttL, tyL, ht])
      (refine StG.byX hE ht 9000 rfl rfl ?_ <;> simp only [evX, reduceIte, reduceCtorEq, Nat.reduceLT, Nat.reduceAdd, Nat.reduceEqDiff, Nat.reduceBEq, Nat.reduceLeDiff, Nat.reduceMul, ttL, tyL, ht])
      refine ⟨by kernel_rfl, ?_⟩
      rw [e]
      exact RetQ.cct (.inr rfl) (cellV rfl rfl rfl rfl rfl rfl rfl rfl rfl) (cellV rfl rfl rfl rfl rfl rfl rfl rfl rfl) rfl rfl
  · (refine Ok.code hT hM (fn := Tryz.f54) rfl rfl rfl _ _ rfl rfl (Nat.le_of_ble_eq_true rfl) fun E hE hP ht h0 hrd => ?_; refine Go.run hE 9000 ?_; simp only [Tryz.f54, evX, reduceIte, reduceCtorEq, Nat.reduceLT, Nat.reduceAdd, Nat.reduceEqDiff, Nat.reduceBEq, Nat.reduceLeDiff, Nat.reduceMul, ttL, tyL, ht])
    (refine StG.by hE ht 9000 rfl ?_ <;> simp only [evX, reduceIte, reduceCtorEq, Nat.reduceLT, Nat.reduceAdd, Nat.reduceEqDiff, Nat.reduceBEq, Nat.reduceLeDiff, Nat.reduceMul, ttL, tyL, ht])
    (refine CallG.ok hE 9000 (hP ▸ ok_rMay p bP rP) rfl rfl ?_ <;> simp only [evX, reduceIte, reduceCtorEq, Nat.reduceLT, Nat.reduceAdd, Nat.reduceEqDiff, Nat.reduceBEq, Nat.reduceLeDiff, Nat.reduceMul, ttL, tyL, ht])
    (refine CallG.ok hE 9000 (hP ▸ ok_rMay q bQ rQ) rfl rfl ?_ <;> simp only [evX, reduceIte, reduceCtorEq, Nat.reduceLT, Nat.reduceAdd, Nat.reduceEqDiff, Nat.reduceBEq, Nat.reduceLeDiff, Nat.reduceMul, ttL, tyL, ht])
    have e : passPT p q = (primZ, primZ, false) := by rw [passPT, passP, if_neg hm]
    cases h1 : mayP p <;> cases h2 : mayP q <;> simp only [h1, h2, evX, reduceIte, reduceCtorEq, Nat.reduceLT, Nat.reduceAdd, Nat.reduceEqDiff, Nat.reduceBEq, Nat.reduceLeDiff, Nat.reduceMul, ttL, tyL, ht, Bool.not_true, Bool.not_false]
    case true.true => exact absurd ⟨h1, h2⟩ hm
    all_goals
      (refine StG.byX hE ht 9000 rfl rfl ?_ <;> simp only [evX, reduceIte, reduceCtorEq, Nat.reduceLT, Nat.reduceAdd, Nat.reduceEqDiff, Nat.reduceBEq, Nat.reduceLeDiff, Nat.reduceMul, ttL, tyL, ht])
      (refine StG.byX hE ht 9000 rfl rfl ?_ <;> simp only [evX, reduceIte, reduceCtorEq, Nat.reduceLT, Nat.reduceAdd, Nat.reduceEqDiff, Nat.reduceBEq, Nat.reduceLeDiff, Nat.reduceMul, ttL, tyL, ht])
      refine ⟨by kernel_rfl, ?_⟩
      rw [e]
      exact RetQ.cct (.inr rfl) (cellV rfl rfl rfl rfl rfl rfl rfl rfl rfl) (cellV rfl rfl rfl rfl rfl rfl rfl rfl rfl) rfl rfl
end Go.Proofs.YtfjlopdofjbfgaaGreat
