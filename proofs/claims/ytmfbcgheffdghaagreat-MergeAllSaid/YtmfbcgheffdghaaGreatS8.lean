/- The program's functions, walked (part 8). -/
import Derived.Test.YtmfbcgheffdghaaGreatS7
import Derived.Test.YtmfbcgheffdghaaGreatG11
import Derived.Test.YtmfbcgheffdghaaGreatS6
import Derived.Test.YtmfbcgheffdghaaGreatG10
import Derived.Test.YtmfbcgheffdghaaGreatG12
/- Changes that pass one another: the document's answer. -/
namespace Go.Proofs.YtmfbcgheffdghaaGreat
open Go.Vam Go.Qm
set_option linter.unusedVariables false
set_option linter.unusedSimpArgs false
set_option maxRecDepth 8000
set_option maxHeartbeats 2000000

theorem ok_ref09Pass (p q : Prim) (bP : primB p) (bQ : primB q) (rP : primR p) (rQ : primR q) : Ok Tryz.prog 74 [primA p, primA q] (.v (.tup [primA (passPT p q).1, primA (passPT p q).2.1, boolA (passPT p q).2.2])) := by
  by_cases hm : mayP p = true ∧ mayP q = true
  · obtain ⟨h1, h2⟩ := hm
    (refine Ok.code hT hM (fn := Tryz.f74) rfl rfl rfl _ _ rfl rfl (Nat.le_of_ble_eq_true rfl) fun E hE hP ht h0 hrd => ?_; refine Go.run hE 9000 ?_; simp only [Tryz.f74, evX, reduceIte, reduceCtorEq, Nat.reduceLT, Nat.reduceAdd, Nat.reduceEqDiff, Nat.reduceBEq, Nat.reduceLeDiff, Nat.reduceMul, ttL, tyL, ht])
    (refine StG.by hE ht 9000 rfl ?_ <;> simp only [evX, reduceIte, reduceCtorEq, Nat.reduceLT, Nat.reduceAdd, Nat.reduceEqDiff, Nat.reduceBEq, Nat.reduceLeDiff, Nat.reduceMul, ttL, tyL, ht])
    (refine CallG.ok hE 9000 (hP ▸ ok_rMay p bP rP) rfl rfl ?_ <;> simp only [evX, reduceIte, reduceCtorEq, Nat.reduceLT, Nat.reduceAdd, Nat.reduceEqDiff, Nat.reduceBEq, Nat.reduceLeDiff, Nat.reduceMul, ttL, tyL, ht])
    (refine CallG.ok hE 9000 (hP ▸ ok_rMay q bQ rQ) rfl rfl ?_ <;> simp only [evX, reduceIte, reduceCtorEq, Nat.reduceLT, Nat.reduceAdd, Nat.reduceEqDiff, Nat.reduceBEq, Nat.reduceLeDiff, Nat.reduceMul, ttL, tyL, ht])
    simp only [h1, h2, evX, reduceIte, reduceCtorEq, Nat.reduceLT, Nat.reduceAdd, Nat.reduceEqDiff, Nat.reduceBEq, Nat.reduceLeDiff, Nat.reduceMul, ttL, tyL, ht, Bool.not_true]
    (refine CallG.ok hE 9000 (hP ▸ ok_rapart p q) rfl rfl ?_ <;> simp only [evX, reduceIte, reduceCtorEq, Nat.reduceLT, Nat.reduceAdd, Nat.reduceEqDiff, Nat.reduceBEq, Nat.reduceLeDiff, Nat.reduceMul, ttL, tyL, ht])
    cases ha : apartP p q <;> simp only [evX, reduceIte, reduceCtorEq, Nat.reduceLT, Nat.reduceAdd, Nat.reduceEqDiff, Nat.reduceBEq, Nat.reduceLeDiff, Nat.reduceMul, ttL, tyL, ht]
    · have i0 : ¬ apartP p q = true := by rw [ha]; simp
      have hbs : (q.name == p.to) = decide (q.name = p.to) := str_beq _ _
      have hbs2 : (p.name == q.name) = decide (p.name = q.name) := str_beq _ _
      by_cases k3 : p.kind = 3 ∧ q.kind = 3
      · have ka : (p.kind == 3) = true := by simpa using k3.1
        have kb : (q.kind == 3) = true := by simpa using k3.2
        simp only [ka, kb, evX, reduceIte, reduceCtorEq, Nat.reduceLT, Nat.reduceAdd, Nat.reduceEqDiff, Nat.reduceBEq, Nat.reduceLeDiff, Nat.reduceMul, ttL, tyL, ht]
        (refine CallG.ok hE 9000 (hP ▸ ok_ref06Pass p.h q.h bP bQ rP.h rQ.h) rfl rfl ?_ <;> simp only [evX, reduceIte, reduceCtorEq, Nat.reduceLT, Nat.reduceAdd, Nat.reduceEqDiff, Nat.reduceBEq, Nat.reduceLeDiff, Nat.reduceMul, ttL, tyL, ht])
        cases hs : passH p.h q.h with
        | none =>
          have e' : passHT p.h q.h = (hunkZ, hunkZ, false) := by rw [passHT, hs]
          have e : passPT p q = (primZ, primZ, false) := by rw [passPT, passP, if_pos ⟨h1, h2⟩, if_neg i0, if_pos k3, hs]; rfl
          simp only [e', evX, reduceIte, reduceCtorEq, Nat.reduceLT, Nat.reduceAdd, Nat.reduceEqDiff, Nat.reduceBEq, Nat.reduceLeDiff, Nat.reduceMul, ttL, tyL, ht]
          (refine StG.by hE ht 9000 rfl ?_ <;> simp only [evX, reduceIte, reduceCtorEq, Nat.reduceLT, Nat.reduceAdd, Nat.reduceEqDiff, Nat.reduceBEq, Nat.reduceLeDiff, Nat.reduceMul, ttL, tyL, ht])
          (refine StG.by hE ht 9000 rfl ?_ <;> simp only [evX, reduceIte, reduceCtorEq, Nat.reduceLT, Nat.reduceAdd, Nat.reduceEqDiff, Nat.reduceBEq, Nat.reduceLeDiff, Nat.reduceMul, ttL, tyL, ht])
          (refine StG.byX hE ht 9000 rfl rfl ?_ <;> simp only [evX, reduceIte, reduceCtorEq, Nat.reduceLT, Nat.reduceAdd, Nat.reduceEqDiff, Nat.reduceBEq, Nat.reduceLeDiff, Nat.reduceMul, ttL, tyL, ht])
          (refine StG.byX hE ht 9000 rfl rfl ?_ <;> simp only [evX, reduceIte, reduceCtorEq, Nat.reduceLT, Nat.reduceAdd, Nat.reduceEqDiff, Nat.reduceBEq, Nat.reduceLeDiff, Nat.reduceMul, ttL, tyL, ht])
          refine ⟨by kernel_rfl, ?_⟩
          rw [e]
          exact RetQ.cct (.inr rfl) (cellV rfl rfl rfl rfl rfl rfl rfl rfl rfl) (cellV rfl rfl rfl rfl rfl rfl rfl rfl rfl) rfl rfl
        | some r =>
          have e' : passHT p.h q.h = (r.1, r.2, true) := by rw [passHT, hs]
          have e : passPT p q = (⟨q.kind, q.name, q.to, r.1⟩, ⟨p.kind, p.name, p.to, r.2⟩, true) := by rw [passPT, passP, if_pos ⟨h1, h2⟩, if_neg i0, if_pos k3, hs]; rfl
          simp only [e', evX, reduceIte, reduceCtorEq, Nat.reduceLT, Nat.reduceAdd, Nat.reduceEqDiff, Nat.reduceBEq, Nat.reduceLeDiff, Nat.reduceMul, ttL, tyL, ht]
          (refine StG.by hE ht 9000 rfl ?_ <;> simp only [evX, reduceIte, reduceCtorEq, Nat.reduceLT, Nat.reduceAdd, Nat.reduceEqDiff, Nat.reduceBEq, Nat.reduceLeDiff, Nat.reduceMul, ttL, tyL, ht])
          (refine StG.by hE ht 9000 rfl ?_ <;> simp only [evX, reduceIte, reduceCtorEq, Nat.reduceLT, Nat.reduceAdd, Nat.reduceEqDiff, Nat.reduceBEq, Nat.reduceLeDiff, Nat.reduceMul, ttL, tyL, ht])
          (refine StG.by hE ht 9000 rfl ?_ <;> simp only [evX, reduceIte, reduceCtorEq, Nat.reduceLT, Nat.reduceAdd, Nat.reduceEqDiff, Nat.reduceBEq, Nat.reduceLeDiff, Nat.reduceMul, ttL, tyL, ht])
          (refine StG.by hE ht 9000 rfl ?_ <;> simp only [evX, reduceIte, reduceCtorEq, Nat.reduceLT, Nat.reduceAdd, Nat.reduceEqDiff, Nat.reduceBEq, Nat.reduceLeDiff, Nat.reduceMul, ttL, tyL, ht])
          (refine StG.byX hE ht 9000 rfl rfl ?_ <;> simp only [evX, reduceIte, reduceCtorEq, Nat.reduceLT, Nat.reduceAdd, Nat.reduceEqDiff, Nat.reduceBEq, Nat.reduceLeDiff, Nat.reduceMul, ttL, tyL, ht])
          (refine StG.byX hE ht 9000 rfl rfl ?_ <;> simp only [evX, reduceIte, reduceCtorEq, Nat.reduceLT, Nat.reduceAdd, Nat.reduceEqDiff, Nat.reduceBEq, Nat.reduceLeDiff, Nat.reduceMul, ttL, tyL, ht])
          refine ⟨by kernel_rfl, ?_⟩
          rw [e]
          exact RetQ.cct (.inr rfl) (cellV rfl rfl rfl rfl rfl rfl rfl rfl rfl) (cellV rfl rfl rfl rfl rfl rfl rfl rfl rfl) rfl rfl
      · have hg : ((p.kind == 3) = true ∧ (q.kind == 3) = false) ∨ (p.kind == 3) = false := by
          by_cases u : p.kind = 3
          · exact .inl ⟨by simpa using u, by simpa using fun v => k3 ⟨u, v⟩⟩
          · exact .inr (by simpa using u)
        rcases hg with ⟨ka, kb⟩ | ka <;> simp only [ka, *, evX, reduceIte, reduceCtorEq, Nat.reduceLT, Nat.reduceAdd, Nat.reduceEqDiff, Nat.reduceBEq, Nat.reduceLeDiff, Nat.reduceMul, ttL, tyL, ht]
        all_goals
          (refine CallG.ok hE 9000 (hP ▸ ok_rlines p) rfl rfl ?_ <;> simp only [evX, reduceIte, reduceCtorEq, Nat.reduceLT, Nat.reduceAdd, Nat.reduceEqDiff, Nat.reduceBEq, Nat.reduceLeDiff, Nat.reduceMul, ttL, tyL, ht])
          (refine CallG.ok hE 9000 (hP ▸ ok_rlines q) rfl rfl ?_ <;> simp only [evX, reduceIte, reduceCtorEq, Nat.reduceLT, Nat.reduceAdd, Nat.reduceEqDiff, Nat.reduceBEq, Nat.reduceLeDiff, Nat.reduceMul, ttL, tyL, ht])
          by_cases m1 : p.kind = 2 ∧ linesP q = true ∧ q.name = p.to
          · have ma : (p.kind == 2) = true := by simpa using m1.1
            have mb : (q.name == p.to) = true := by rw [hbs]; simpa using m1.2.2
            have e : passPT p q = (⟨q.kind, p.name, q.to, q.h⟩, p, true) := by rw [passPT, passP, if_pos ⟨h1, h2⟩, if_neg i0, if_neg k3, if_pos m1]
            simp only [ma, mb, m1.2.1, evX, reduceIte, reduceCtorEq, Nat.reduceLT, Nat.reduceAdd, Nat.reduceEqDiff, Nat.reduceBEq, Nat.reduceLeDiff, Nat.reduceMul, ttL, tyL, ht]
            (refine StG.by hE ht 9000 rfl ?_ <;> simp only [evX, reduceIte, reduceCtorEq, Nat.reduceLT, Nat.reduceAdd, Nat.reduceEqDiff, Nat.reduceBEq, Nat.reduceLeDiff, Nat.reduceMul, ttL, tyL, ht])
            (refine StG.byX hE ht 9000 rfl rfl ?_ <;> simp only [evX, reduceIte, reduceCtorEq, Nat.reduceLT, Nat.reduceAdd, Nat.reduceEqDiff, Nat.reduceBEq, Nat.reduceLeDiff, Nat.reduceMul, ttL, tyL, ht])
            (refine StG.byX hE ht 9000 rfl rfl ?_ <;> simp only [evX, reduceIte, reduceCtorEq, Nat.reduceLT, Nat.reduceAdd, Nat.reduceEqDiff, Nat.reduceBEq, Nat.reduceLeDiff, Nat.reduceMul, ttL, tyL, ht])
            refine ⟨by kernel_rfl, ?_⟩
            rw [e]
            exact RetQ.cct (.inr rfl) (cellV rfl rfl rfl rfl rfl rfl rfl rfl rfl) (cellV rfl rfl rfl rfl rfl rfl rfl rfl rfl) rfl rfl
          · by_cases m2 : q.kind = 2 ∧ linesP p = true ∧ p.name = q.name
            · have ma : (q.kind == 2) = true := by simpa using m2.1
              have mb : (p.name == q.name) = true := by rw [hbs2]; simpa using m2.2.2
              have mc : (p.kind == 2) = false := by have := m2.2.1; simp [linesP] at this; simp; omega
              have e : passPT p q = (q, ⟨p.kind, q.to, p.to, p.h⟩, true) := by rw [passPT, passP, if_pos ⟨h1, h2⟩, if_neg i0, if_neg k3, if_neg m1, if_pos m2]
              simp only [ma, mb, mc, m2.2.1, evX, reduceIte, reduceCtorEq, Nat.reduceLT, Nat.reduceAdd, Nat.reduceEqDiff, Nat.reduceBEq, Nat.reduceLeDiff, Nat.reduceMul, ttL, tyL, ht]
              (refine StG.by hE ht 9000 rfl ?_ <;> simp only [evX, reduceIte, reduceCtorEq, Nat.reduceLT, Nat.reduceAdd, Nat.reduceEqDiff, Nat.reduceBEq, Nat.reduceLeDiff, Nat.reduceMul, ttL, tyL, ht])
              (refine StG.byX hE ht 9000 rfl rfl ?_ <;> simp only [evX, reduceIte, reduceCtorEq, Nat.reduceLT, Nat.reduceAdd, Nat.reduceEqDiff, Nat.reduceBEq, Nat.reduceLeDiff, Nat.reduceMul, ttL, tyL, ht])
              (refine StG.byX hE ht 9000 rfl rfl ?_ <;> simp only [evX, reduceIte, reduceCtorEq, Nat.reduceLT, Nat.reduceAdd, Nat.reduceEqDiff, Nat.reduceBEq, Nat.reduceLeDiff, Nat.reduceMul, ttL, tyL, ht])
              refine ⟨by kernel_rfl, ?_⟩
              rw [e]
              exact RetQ.cct (.inr rfl) (cellV rfl rfl rfl rfl rfl rfl rfl rfl rfl) (cellV rfl rfl rfl rfl rfl rfl rfl rfl rfl) rfl rfl
            · have n1 : (p.kind == 2) = false ∨ ((p.kind == 2) = true ∧ linesP q = false) ∨ ((p.kind == 2) = true ∧ linesP q = true ∧ decide (q.name = p.to) = false) := by
                cases u : (p.kind == 2)
                · exact .inl rfl
                · cases v : linesP q
                  · exact .inr (.inl ⟨rfl, rfl⟩)
                  · exact .inr (.inr ⟨rfl, rfl, by simpa using fun w => m1 ⟨by simpa using u, v, w⟩⟩)
              have n2 : (q.kind == 2) = false ∨ ((q.kind == 2) = true ∧ linesP p = false) ∨ ((q.kind == 2) = true ∧ linesP p = true ∧ decide (p.name = q.name) = false) := by
                cases u : (q.kind == 2)
                · exact .inl rfl
                · cases v : linesP p
                  · exact .inr (.inl ⟨rfl, rfl⟩)
                  · exact .inr (.inr ⟨rfl, rfl, by simpa using fun w => m2 ⟨by simpa using u, v, w⟩⟩)
              rcases n1 with n1 | ⟨n1, n1'⟩ | ⟨n1, n1', n1''⟩ <;> simp only [*, evX, reduceIte, reduceCtorEq, Nat.reduceLT, Nat.reduceAdd, Nat.reduceEqDiff, Nat.reduceBEq, Nat.reduceLeDiff, Nat.reduceMul, ttL, tyL, ht] <;> rcases n2 with n2 | ⟨n2, n2'⟩ | ⟨n2, n2', n2''⟩ <;> try simp only [*, evX, reduceIte, reduceCtorEq, Nat.reduceLT, Nat.reduceAdd, Nat.reduceEqDiff, Nat.reduceBEq, Nat.reduceLeDiff, Nat.reduceMul, ttL, tyL, ht]
              all_goals
                have e : passPT p q = (primZ, primZ, false) := by rw [passPT, passP, if_pos ⟨h1, h2⟩, if_neg i0, if_neg k3, if_neg m1, if_neg m2]
                (refine StG.byX hE ht 9000 rfl rfl ?_ <;> simp only [evX, reduceIte, reduceCtorEq, Nat.reduceLT, Nat.reduceAdd, Nat.reduceEqDiff, Nat.reduceBEq, Nat.reduceLeDiff, Nat.reduceMul, ttL, tyL, ht])
                (refine StG.byX hE ht 9000 rfl rfl ?_ <;> simp only [evX, reduceIte, reduceCtorEq, Nat.reduceLT, Nat.reduceAdd, Nat.reduceEqDiff, Nat.reduceBEq, Nat.reduceLeDiff, Nat.reduceMul, ttL, tyL, ht])
                refine ⟨by kernel_rfl, ?_⟩
                rw [e]
                exact RetQ.cct (.inr rfl) (cellV rfl rfl rfl rfl rfl rfl rfl rfl rfl) (cellV rfl rfl rfl rfl rfl rfl rfl rfl rfl) rfl rfl
    · have e : passPT p q = (q, p, true) := by rw [passPT, passP, if_pos ⟨h1, h2⟩, if_pos ha]
      (refine StG.byX hE ht 9000 rfl rfl ?_ <;> simp only [evX, reduceIte, reduceCtorEq, Nat.reduceLT, Nat.reduceAdd, Nat.reduceEqDiff, Nat.reduceBEq, Nat.reduceLeDiff, Nat.reduceMul, ttL, tyL, ht])
      (refine StG.byX hE ht 9000 rfl rfl ?_ <;> simp only [evX, reduceIte, reduceCtorEq, Nat.reduceLT, Nat.reduceAdd, Nat.reduceEqDiff, Nat.reduceBEq, Nat.reduceLeDiff, Nat.reduceMul, ttL, tyL, ht])
      refine ⟨by kernel_rfl, ?_⟩
      rw [e]
      exact RetQ.cct (.inr rfl) (cellV rfl rfl rfl rfl rfl rfl rfl rfl rfl) (cellV rfl rfl rfl rfl rfl rfl rfl rfl rfl) rfl rfl
  · (refine Ok.code hT hM (fn := Tryz.f74) rfl rfl rfl _ _ rfl rfl (Nat.le_of_ble_eq_true rfl) fun E hE hP ht h0 hrd => ?_; refine Go.run hE 9000 ?_; simp only [Tryz.f74, evX, reduceIte, reduceCtorEq, Nat.reduceLT, Nat.reduceAdd, Nat.reduceEqDiff, Nat.reduceBEq, Nat.reduceLeDiff, Nat.reduceMul, ttL, tyL, ht])
    (refine StG.by hE ht 9000 rfl ?_ <;> simp only [evX, reduceIte, reduceCtorEq, Nat.reduceLT, Nat.reduceAdd, Nat.reduceEqDiff, Nat.reduceBEq, Nat.reduceLeDiff, Nat.reduceMul, ttL, tyL, ht])
    (refine CallG.ok hE 9000 (hP ▸ ok_rMay p bP rP) rfl rfl ?_ <;> simp only [evX, reduceIte, reduceCtorEq, Nat.reduceLT, Nat.reduceAdd, Nat.reduceEqDiff, Nat.reduceBEq, Nat.reduceLeDiff, Nat.reduceMul, ttL, tyL, ht])
    (refine CallG.ok hE 9000 (hP ▸ ok_rMay q bQ rQ) rfl rfl ?_ <;> simp only [evX, reduceIte, reduceCtorEq, Nat.reduceLT, Nat.reduceAdd, Nat.reduceEqDiff, Nat.reduceBEq, Nat.reduceLeDiff, Nat.reduceMul, ttL, tyL, ht])
    have e : passPT p q = (primZ, primZ, false) := by rw [passPT, passP, if_neg hm]
    cases h1 : mayP p <;> cases h2 : mayP q <;> simp only [h1, h2, evX, reduceIte, reduceCtorEq, Nat.reduceLT, Nat.reduceAdd, Nat.reduceEqDiff, Nat.reduceBEq, Nat.reduceLeDiff, Nat.reduceMul, ttL, tyL, ht, Bool.not_true, Bool.not_false]
    case true.true => exact absurd ⟨h1, h2⟩ hm
    all_goals
      (refine StG.byX hE ht 9000 rfl rfl ?_ <;> simp only [evX, reduceIte, reduceCtorEq, Nat.reduceLT, Nat.reduceAdd, Nat.reduceEqDiff, Nat.reduceBEq, Nat.reduceLeDiff, Nat.reduceMul, ttL, tyL, ht])
      (refine StG.byX hE ht 9000 rfl rfl ?_ <;> simp only [evX, reduceIte, reduceCtorEq, Nat.reduceLT, Nat.reduceAdd, Nat.reduceEqDiff, Nat.reduceBEq, Nat.reduceLeDiff, Nat.reduceMul, ttL, tyL, ht])
      refine ⟨by kernel_rfl, ?_⟩
      rw [e]
      exact RetQ.cct (.inr rfl) (cellV rfl rfl rfl rfl rfl rfl rfl rfl rfl) (cellV rfl rfl rfl rfl rfl rfl rfl rfl rfl) rfl rfl
end Go.Proofs.YtmfbcgheffdghaaGreat

/- The laws of changes that pass one another. -/
namespace Go.Proofs.YtmfbcgheffdghaaGreat
open Go.Vam Go.Qm
set_option linter.unusedVariables false
set_option linter.unusedSimpArgs false
set_option maxRecDepth 8000
set_option maxHeartbeats 2000000

theorem primZ_B : primB primZ := ⟨by simp [primZ, hunkZ], by simp [primZ, hunkZ]⟩
theorem primZ_R : primR primZ := ⟨by simp [primZ, i64], by decide, by decide, by simp [primZ, hunkZ, i64], by simp [primZ, hunkZ, strsZ], by simp [primZ, hunkZ, strsZ]⟩
theorem passH_R {p q x y : Hunk} (rp : hunkR p) (rq : hunkR q) (h : PassesH p q x y) : hunkR x ∧ hunkR y := by
  obtain ⟨a1, a2, a3, a4, _⟩ := passesH_at h
  obtain ⟨o1, o2⟩ := passH_ok h
  have o1 := hunkOk_at o1
  have o2 := hunkOk_at o2
  exact ⟨⟨by unfold i64; omega, by rw [a1]; exact rq.old, by rw [a2]; exact rq.new⟩, ⟨by unfold i64; omega, by rw [a3]; exact rp.old, by rw [a4]; exact rp.new⟩⟩
theorem pass_B {p q x y : Prim} (h : passP p q = some (x, y)) (bp : primB p) (bq : primB q) : primB x ∧ primB y := by
  obtain ⟨-, -, a, b, -, -, c, d⟩ := pass_kinds h
  exact ⟨⟨by rw [a]; exact bq.1, by rw [b]; exact bq.2⟩, ⟨by rw [c]; exact bp.1, by rw [d]; exact bp.2⟩⟩
theorem pass_R {p q x y : Prim} (h : passP p q = some (x, y)) (rp : primR p) (rq : primR q) : primR x ∧ primR y := by
  cases (passP_iff.1 h).2.2 with
  | apart ha hx hy => rw [hx, hy]; exact ⟨rq, rp⟩
  | patch a b hn hk hk2 hh hx hy =>
    obtain ⟨r1, r2⟩ := passH_R rp.h rq.h hh
    rw [hx, hy]
    exact ⟨⟨rq.kind, rq.name, rq.to, r1⟩, ⟨rp.kind, rp.name, rp.to, r2⟩⟩
  | after hk hl hn hx hy => rw [hx, hy]; exact ⟨⟨rq.kind, rp.name, rq.to, rq.h⟩, rp⟩
  | before hk hl hn hx hy => rw [hx, hy]; exact ⟨rq, ⟨rp.kind, rq.to, rp.to, rp.h⟩⟩
theorem passPT_B {p q : Prim} (bp : primB p) (bq : primB q) : primB (passPT p q).1 ∧ primB (passPT p q).2.1 := by
  unfold passPT
  split
  · rename_i r e; exact pass_B e bp bq
  · exact ⟨primZ_B, primZ_B⟩
theorem passPT_R {p q : Prim} (rp : primR p) (rq : primR q) : primR (passPT p q).1 ∧ primR (passPT p q).2.1 := by
  unfold passPT
  split
  · rename_i r e; exact pass_R e rp rq
  · exact ⟨primZ_R, primZ_R⟩
theorem passPT_some {p q : Prim} (h : (passPT p q).2.2 = true) : passP p q = some ((passPT p q).1, (passPT p q).2.1) := by
  unfold passPT at h ⊢
  split at h
  · rename_i r e; exact e
  · simp at h
theorem passPT_of {p q x y : Prim} (h : passP p q = some (x, y)) : passPT p q = (x, y, true) := by rw [passPT, h]
theorem passPT_none {p q : Prim} (h : (passPT p q).2.2 = false) : passPT p q = (primZ, primZ, false) := by
  unfold passPT at h ⊢
  split at h
  · simp at h
  · rfl

def aw9p : Prim := ⟨2, ⟨#[97]⟩, ⟨#[98]⟩, hunkZ⟩
def aw9q : Prim := ⟨3, ⟨#[98]⟩, ⟨#[]⟩, ⟨0, [], [⟨#[120]⟩]⟩⟩
def aw9r : Prim := ⟨0, ⟨#[97]⟩, ⟨#[]⟩, hunkZ⟩
def aw9s : Prim := ⟨1, ⟨#[97]⟩, ⟨#[]⟩, hunkZ⟩
theorem aw9a : passPT aw9p aw9q = (⟨3, ⟨#[97]⟩, ⟨#[]⟩, ⟨0, [], [⟨#[120]⟩]⟩⟩, aw9p, true) := by kernel_rfl
theorem aw9b : passPT aw9r aw9s = (primZ, primZ, false) := by kernel_rfl
end Go.Proofs.YtmfbcgheffdghaaGreat

/- Lists of changes that pass one another: the program's way. -/
namespace Go.Proofs.YtmfbcgheffdghaaGreat
open Go.Vam Go.Qm
set_option linter.unusedVariables false
set_option linter.unusedSimpArgs false
set_option maxRecDepth 8000
set_option maxHeartbeats 2000000

theorem ok_flowOwn (l : List Prim) (hl : l.length * 96 ≤ 140737488355328) (bl : ∀ p ∈ l, primB p) : Ok Tryz.prog 49 [primsA l] (.own 50 6 (primsC l)) := by
  (refine Ok.code hT hM (fn := Tryz.f49) rfl rfl rfl _ _ rfl rfl (Nat.le_of_ble_eq_true rfl) fun E hE hP ht h0 hrd => ?_; refine Go.run hE 9000 ?_; simp only [Tryz.f49, evX, reduceIte, reduceCtorEq, Nat.reduceLT, Nat.reduceAdd, Nat.reduceEqDiff, Nat.reduceBEq, Nat.reduceLeDiff, Nat.reduceMul, ttL, tyL, ht])
  refine Go.nilT 3 50 6 rfl ?_
  refine Loop.by hE (ι := {i : Nat // i ≤ l.length}) (fun i => ⟨20, [(3, .own 0), (6, primsA l), (7, intA l.length), (8, intA i.1)], [.rows 50 6 (primsC (l.take i.1))], [], []⟩) (fun i => l.length - i.1) ⟨0, by simp⟩ 9000 ⟨[0], Wk.of rfl (by simp) (by rw [h0]; simp [fixB]) (by simp [wkT, okA, wkP, cloE, Vam.look, sig, ]) (by simp [wkBs, setBx, nthB, wkBx, wkL, okA, wkP, cloE, sig, ]) (by simp) (by simp)⟩ (by simp [h0]) ?_
  rintro ⟨i, hi⟩
  simp only [evX, reduceIte, reduceCtorEq, Nat.reduceLT, Nat.reduceAdd, Nat.reduceEqDiff, Nat.reduceBEq, Nat.reduceLeDiff, Nat.reduceMul, ttL, tyL, ht]
  ((first | refine SelF.byN (fun hb => ?_) (fun hb => ?_) | refine SelF.by (fun hb => ?_) (fun hb => ?_)) <;> simp only [hb, evX, reduceIte, reduceCtorEq, Nat.reduceLT, Nat.reduceAdd, Nat.reduceEqDiff, Nat.reduceBEq, Nat.reduceLeDiff, Nat.reduceMul, ttL, tyL, ht])
  · simp only [decide_eq_true_eq] at hb
    have hlt : i < l.length := by omega
    refine IdxR.nat hE 9000 hlt rfl ?_
    simp only [evX, reduceIte, reduceCtorEq, Nat.reduceLT, Nat.reduceAdd, Nat.reduceEqDiff, Nat.reduceBEq, Nat.reduceLeDiff, Nat.reduceMul, ttL, tyL, ht]
    (refine StG.by hE ht 9000 rfl ?_ <;> simp only [evX, reduceIte, reduceCtorEq, Nat.reduceLT, Nat.reduceAdd, Nat.reduceEqDiff, Nat.reduceBEq, Nat.reduceLeDiff, Nat.reduceMul, ttL, tyL, ht])
    have hm := bl _ (List.getElem_mem hlt)
    (refine CallG.ok hE 9000 (hP ▸ ok_turnP l[i] hm) rfl rfl ?_ <;> simp only [evX, reduceIte, reduceCtorEq, Nat.reduceLT, Nat.reduceAdd, Nat.reduceEqDiff, Nat.reduceBEq, Nat.reduceLeDiff, Nat.reduceMul, ttL, tyL, ht])
    (refine CallG.ok hE 9000 (hP ▸ ok_turnP (turnP l[i]) (turnP_B hm)) rfl rfl ?_ <;> simp only [evX, reduceIte, reduceCtorEq, Nat.reduceLT, Nat.reduceAdd, Nat.reduceEqDiff, Nat.reduceBEq, Nat.reduceLeDiff, Nat.reduceMul, ttL, tyL, ht])
    rw [turnP_turnP]
    refine AppG.by hE 9000 rfl rfl (by simp [rowLen]) (by simp; omega) ?_
    simp only [evX, reduceIte, reduceCtorEq, Nat.reduceLT, Nat.reduceAdd, Nat.reduceEqDiff, Nat.reduceBEq, Nat.reduceLeDiff, Nat.reduceMul, ttL, tyL, ht]
    have htk : primsC (l.take i) ++ [primC l[i]] = primsC (l.take (i + 1)) := by simp only [primsC]; rw [List.take_add_one, List.getElem?_eq_getElem hlt, List.map_append]; rfl
    rw [htk]
    refine ⟨⟨i + 1, by omega⟩, [3], Wk.of rfl (by simp) (by rw [h0]; simp [fixB]) (by simp [wkT, okA, wkP, cloE, Vam.look, sig, wrapN i (by omega)]) (by simp [wkBs, setBx, nthB, wkBx, wkL, okA, wkP, cloE, sig, wrapN i (by omega)]) (by simp) (by simp), by simp only; omega⟩
  · have : i = l.length := by simp at hb; omega
    subst this

    rw [List.take_length]
    exact RetQ.own (.inr rfl) rfl rfl rfl rfl
theorem passOne_keep {K : Prim → Prop} (hK : ∀ p q x y, K p → K q → passP p q = some (x, y) → K x ∧ K y) {l : List Prim} {q y : Prim} {m : List Prim} (h : passOne l q = some (y, m)) (hl : ∀ p ∈ l, K p) (hq : K q) : K y ∧ ∀ p ∈ m, K p := by
  induction l generalizing y m with
  | nil =>
    simp only [passOne, Option.some.injEq, Prod.mk.injEq] at h
    obtain ⟨rfl, rfl⟩ := h
    exact ⟨hq, by simp⟩
  | cons p l ih =>
    obtain ⟨x, p', l', h1, h2, rfl⟩ := passOne_cons.1 h
    obtain ⟨k1, k2⟩ := ih h1 (fun z hz => hl z (by simp [hz]))
    obtain ⟨k3, k4⟩ := hK _ _ _ _ (hl p (by simp)) k1 h2
    exact ⟨k3, by simpa using ⟨k4, k2⟩⟩
theorem passL_keep {K : Prim → Prop} (hK : ∀ p q x y, K p → K q → passP p q = some (x, y) → K x ∧ K y) {a b f m : List Prim} (h : passL a b = some (f, m)) (ha : ∀ p ∈ a, K p) (hb : ∀ p ∈ b, K p) : (∀ p ∈ f, K p) ∧ ∀ p ∈ m, K p := by
  induction b generalizing a f with
  | nil =>
    simp only [passL, Option.some.injEq, Prod.mk.injEq] at h
    obtain ⟨rfl, rfl⟩ := h
    exact ⟨by simp, ha⟩
  | cons q b ih =>
    obtain ⟨x, a', f', h1, h2, rfl⟩ := passL_cons.1 h
    obtain ⟨k1, k2⟩ := passOne_keep hK h1 ha (hb q (by simp))
    obtain ⟨k3, k4⟩ := ih h2 k2 (fun z hz => hb z (by simp [hz]))
    exact ⟨by simpa using ⟨k1, k3⟩, k4⟩
def okP (p : Prim) : Prop := primB p ∧ primR p
theorem okP_pass (p q x y : Prim) (hp : okP p) (hq : okP q) (h : passP p q = some (x, y)) : okP x ∧ okP y := by
  obtain ⟨b1, b2⟩ := pass_B h hp.1 hq.1
  obtain ⟨r1, r2⟩ := pass_R h hp.2 hq.2
  exact ⟨⟨b1, r1⟩, ⟨b2, r2⟩⟩
def passLT (a b : List Prim) : List Prim × List Prim × Bool := match passL a b with
  | some r => (r.1, r.2, true)
  | none => ([], [], false)
theorem ok_flowPass (a b : List Prim) (ba : a.length * 96 ≤ 140737488355328) (bb : b.length * 96 ≤ 140737488355328) (ka : ∀ p ∈ a, okP p) (kb : ∀ p ∈ b, okP p) : Ok Tryz.prog 27 [primsA a, primsA b] (.v (.tup [primsA (passLT a b).1, primsA (passLT a b).2.1, boolA (passLT a b).2.2])) := by
  (refine Ok.code hT hM (fn := Tryz.f27) rfl rfl rfl _ _ rfl rfl (Nat.le_of_ble_eq_true rfl) fun E hE hP ht h0 hrd => ?_; refine Go.run hE 9000 ?_; simp only [Tryz.f27, evX, reduceIte, reduceCtorEq, Nat.reduceLT, Nat.reduceAdd, Nat.reduceEqDiff, Nat.reduceBEq, Nat.reduceLeDiff, Nat.reduceMul, ttL, tyL, ht])
  (refine CallG.ok hE 9000 (hP ▸ ok_flowOwn a ba (fun p hp => (ka p hp).1)) rfl rfl ?_ <;> simp only [evX, reduceIte, reduceCtorEq, Nat.reduceLT, Nat.reduceAdd, Nat.reduceEqDiff, Nat.reduceBEq, Nat.reduceLeDiff, Nat.reduceMul, ttL, tyL, ht])
  (refine CallG.ok hE 9000 (hP ▸ ok_flowOwn b bb (fun p hp => (kb p hp).1)) rfl rfl ?_ <;> simp only [evX, reduceIte, reduceCtorEq, Nat.reduceLT, Nat.reduceAdd, Nat.reduceEqDiff, Nat.reduceBEq, Nat.reduceLeDiff, Nat.reduceMul, ttL, tyL, ht])
  refine Go.frzT 17 1 rfl rfl rfl ?_
  refine Go.nilT 7 50 6 rfl ?_
  refine Loop.by hE (ι := {s : Nat × List Prim × List Prim // s.1 ≤ b.length ∧ passL a (b.take s.1) = some (s.2.1, s.2.2)}) (fun s => ⟨41, [(7, .own 1), (8, .own 0), (17, primsA b), (18, intA b.length), (19, intA s.1.1)], [.rows 50 6 (primsC s.1.2.2), .rows 50 6 (primsC s.1.2.1)], [], []⟩) (fun s => b.length - s.1.1) ⟨(0, [], a), by simp [passL]⟩ 9000 ⟨[0, 2], Wk.of rfl (by simp) (by rw [h0]; simp [fixB]) (by simp [wkT, okA, wkP, cloE, Vam.look, sig, St.frz]) (by simp [wkBs, setBx, nthB, wkBx, wkL, okA, wkP, cloE, sig, St.frz]) (by simp) (by simp)⟩ (by simp [h0]) ?_
  rintro ⟨⟨i, f, m⟩, hi, hpass⟩
  simp only [evX, reduceIte, reduceCtorEq, Nat.reduceLT, Nat.reduceAdd, Nat.reduceEqDiff, Nat.reduceBEq, Nat.reduceLeDiff, Nat.reduceMul, ttL, tyL, ht]
  ((first | refine SelF.byN (fun hb => ?_) (fun hb => ?_) | refine SelF.by (fun hb => ?_) (fun hb => ?_)) <;> simp only [hb, evX, reduceIte, reduceCtorEq, Nat.reduceLT, Nat.reduceAdd, Nat.reduceEqDiff, Nat.reduceBEq, Nat.reduceLeDiff, Nat.reduceMul, ttL, tyL, ht])
  · simp only [decide_eq_true_eq] at hb
    have hlt : i < b.length := by omega
    refine IdxR.nat hE 9000 hlt rfl ?_
    simp only [evX, reduceIte, reduceCtorEq, Nat.reduceLT, Nat.reduceAdd, Nat.reduceEqDiff, Nat.reduceBEq, Nat.reduceLeDiff, Nat.reduceMul, ttL, tyL, ht]
    (refine StG.by hE ht 9000 rfl ?_ <;> simp only [evX, reduceIte, reduceCtorEq, Nat.reduceLT, Nat.reduceAdd, Nat.reduceEqDiff, Nat.reduceBEq, Nat.reduceLeDiff, Nat.reduceMul, ttL, tyL, ht])
    (refine StG.by hE ht 9000 rfl ?_ <;> simp only [evX, reduceIte, reduceCtorEq, Nat.reduceLT, Nat.reduceAdd, Nat.reduceEqDiff, Nat.reduceBEq, Nat.reduceLeDiff, Nat.reduceMul, ttL, tyL, ht])
    refine CallG.inl hE hP ht (fn := Tryz.f50) rfl rfl rfl _ _ rfl rfl _ rfl (Nat.le_of_ble_eq_true rfl) fun E' hE' hP' ht' h0' hrd' => ?_
    refine Go.run hE' 9000 ?_
    simp only [Tryz.f50, evX, reduceIte, reduceCtorEq, Nat.reduceLT, Nat.reduceAdd, Nat.reduceEqDiff, Nat.reduceBEq, Nat.reduceLeDiff, Nat.reduceMul, ttL, tyL, ht']
    refine CloG.by hE' 9000 ?_
    simp only [evX, reduceIte, reduceCtorEq, Nat.reduceLT, Nat.reduceAdd, Nat.reduceEqDiff, Nat.reduceBEq, Nat.reduceLeDiff, Nat.reduceMul, ttL, tyL, ht']
    refine InlQ.by hE 9000 (.inr rfl) rfl ?_
    simp only [evX, reduceIte, reduceCtorEq, Nat.reduceLT, Nat.reduceAdd, Nat.reduceEqDiff, Nat.reduceBEq, Nat.reduceLeDiff, Nat.reduceMul, ttL, tyL, ht]
    simp only at hi hpass
    have kb' : ∀ p ∈ b.take i, okP p := fun p hp => kb p (List.mem_of_mem_take hp)
    obtain ⟨kf, km⟩ := passL_keep okP_pass hpass ka kb'
    obtain ⟨hfl, hml⟩ := passL_len hpass
    have kq : okP b[i] := kb _ (List.getElem_mem hlt)
    refine Rng.by hE hP ht hrd (fn := Tryz.f63) rfl rfl rfl rfl _ _ rfl rfl _ rfl (Nat.le_of_ble_eq_true rfl) fun E'' tm' ps' as' bd' hE'' hP'' ht'' h0'' hrd'' htm hps has hbd => ?_
    refine Go.run hE'' 9000 ?_
    simp only [Tryz.f63, evX, reduceIte, reduceCtorEq, Nat.reduceLT, Nat.reduceAdd, Nat.reduceEqDiff, Nat.reduceBEq, Nat.reduceLeDiff, Nat.reduceMul, ttL, tyL, ht'']
    simp only [List.length_cons, List.length_nil] at h0''
    refine Loop.by hE'' (ι := {s : Nat × Prim × List Prim // s.1 ≤ m.length ∧ passOne (m.drop s.1) b[i] = some (s.2.1, s.2.2)}) (fun s => ⟨37, [(0, .yld 6), (1, .ptr 4 0), (2, .ptr 5 0), (4, intA ((s.1.1 : Int) - 1))], [.rows 50 6 (primsC (m.take s.1.1 ++ s.1.2.2)), .rows 50 6 (primsC f), .cells ((primC s.1.2.1).map .c), .cells [intA s.1.1], .cells [.own 0], .cells ((primC s.1.2.1).map .c), .lp 41 tm' ps' as' bd' .ready none], [], []⟩) (fun s => s.1.1) ⟨(m.length, b[i], []), Nat.le_refl _, by simp [passOne]⟩ 9000 ⟨[0, 1, 2, 3, 4, 5, 6], ?_⟩ (by simp [h0'']) ?_
    · subst htm
      refine Wk.of rfl (by simp) (by rw [h0'']; simp [fixB]) ?_ ?_ (by simp) (by simp)
      · simp [wkT, okA, Vam.look, sig]
        rw [wrap64 (by omega) (by omega)]
      · simp [wkBs, setBx, nthB, wkBx, wkL, okA, wkP, cloE, sig, wkT, Vam.look, List.take_length]
    · rintro ⟨⟨j, x, l'⟩, hj, hone⟩
      simp only at hj hone
      simp only [evX, reduceIte, reduceCtorEq, Nat.reduceLT, Nat.reduceAdd, Nat.reduceEqDiff, Nat.reduceBEq, Nat.reduceLeDiff, Nat.reduceMul, ttL, tyL, ht'']
      ((first | refine SelF.byN (fun hb => ?_) (fun hb => ?_) | refine SelF.by (fun hb => ?_) (fun hb => ?_)) <;> simp only [hb, evX, reduceIte, reduceCtorEq, Nat.reduceLT, Nat.reduceAdd, Nat.reduceEqDiff, Nat.reduceBEq, Nat.reduceLeDiff, Nat.reduceMul, ttL, tyL, ht''])
      · simp only [decide_eq_true_eq] at hb
        have hj0 : 0 < j := by omega
        have hjm : j - 1 < m.length := by omega
        rw [show ((j : Int) - 1) = ((j - 1 : Nat) : Int) by omega]
        have hrow : (primsC (m.take j ++ l'))[j - 1]? = some (primC m[j - 1]) := by
          rw [List.getElem?_map, List.getElem?_append_left (by simp; omega), List.getElem?_take_of_lt (by omega), List.getElem?_eq_getElem hjm]
          rfl
        have hlen : j - 1 < (primsC (m.take j ++ l')).length := by simp; omega
        obtain ⟨kx, kl'⟩ := passOne_keep okP_pass hone (fun p hp => km p (List.mem_of_mem_drop hp)) kq
        have kp := km _ (List.getElem_mem hjm)
        have hd1 : m.drop (j - 1) = m[j - 1] :: m.drop j := by
          rw [List.drop_eq_getElem_cons hjm, show j - 1 + 1 = j by omega]
        refine IdxO.by hE'' 9000 (by omega) (by omega) ?_
        simp only [evX, reduceIte, reduceCtorEq, Nat.reduceLT, Nat.reduceAdd, Nat.reduceEqDiff, Nat.reduceBEq, Nat.reduceLeDiff, Nat.reduceMul, ttL, tyL, ht'']
        refine LdO.by hE'' (j := j - 1) (row := primC m[j - 1]) 9000 hrow (by simp) (by simp) ?_
        try simp only [Int.toNat_natCast, Nat.sub_self]
        simp only [evX, reduceIte, reduceCtorEq, Nat.reduceLT, Nat.reduceAdd, Nat.reduceEqDiff, Nat.reduceBEq, Nat.reduceLeDiff, Nat.reduceMul, ttL, tyL, ht'']
        refine CallG.ok hE'' 9000 (hP'' ▸ ok_passPass m[j - 1] x kp.1 kx.1 kp.2 kx.2) rfl rfl ?_
        simp only [evX, reduceIte, reduceCtorEq, Nat.reduceLT, Nat.reduceAdd, Nat.reduceEqDiff, Nat.reduceBEq, Nat.reduceLeDiff, Nat.reduceMul, ttL, tyL, ht'']
        refine StG.byX hE'' ht'' 9000 rfl rfl ?_
        simp only [evX, reduceIte, reduceCtorEq, Nat.reduceLT, Nat.reduceAdd, Nat.reduceEqDiff, Nat.reduceBEq, Nat.reduceLeDiff, Nat.reduceMul, ttL, tyL, ht'']
        refine StG.byX hE'' ht'' 9000 rfl rfl ?_
        simp only [evX, reduceIte, reduceCtorEq, Nat.reduceLT, Nat.reduceAdd, Nat.reduceEqDiff, Nat.reduceBEq, Nat.reduceLeDiff, Nat.reduceMul, ttL, tyL, ht'']
        refine ⟨by kernel_rfl, ?_⟩
        cases hs : (passPT m[j - 1] x).2.2
        · simp only [evX, reduceIte, reduceCtorEq, Nat.reduceLT, Nat.reduceAdd, Nat.reduceEqDiff, Nat.reduceBEq, Nat.reduceLeDiff, Nat.reduceMul, ttL, tyL, ht'', Bool.not_false]
          refine RngQ.by hE 9000 (.inr rfl) rfl rfl (by simp) rfl ?_
          simp only [htm]
          simp only [evX, reduceIte, reduceCtorEq, Nat.reduceLT, Nat.reduceAdd, Nat.reduceEqDiff, Nat.reduceBEq, Nat.reduceLeDiff, Nat.reduceMul, ttL, tyL, ht]
          have hpn : passP m[j - 1] x = none := by
            cases h : passP m[j - 1] x with
            | none => rfl
            | some r => rw [passPT, h] at hs; simp at hs
          have e : passLT a b = ([], [], false) := by rw [passLT, passL_fail hlt hpass (passOne_fail hjm (by rw [show j - 1 + 1 = j by omega]; exact hone) hpn)]
          have hd : decide ((j : Int) > 0) = true := by simpa using hj0
          simp only [hd, evX, reduceIte, reduceCtorEq, Nat.reduceLT, Nat.reduceAdd, Nat.reduceEqDiff, Nat.reduceBEq, Nat.reduceLeDiff, Nat.reduceMul, ttL, tyL, ht]
          rw [e]
          exact RetQ.three (.inr rfl) rfl rfl rfl rfl rfl
        · simp only [evX, reduceIte, reduceCtorEq, Nat.reduceLT, Nat.reduceAdd, Nat.reduceEqDiff, Nat.reduceBEq, Nat.reduceLeDiff, Nat.reduceMul, ttL, tyL, ht'', Bool.not_true]
          refine StG.byX hE'' ht'' 9000 rfl rfl ?_
          simp only [evX, reduceIte, reduceCtorEq, Nat.reduceLT, Nat.reduceAdd, Nat.reduceEqDiff, Nat.reduceBEq, Nat.reduceLeDiff, Nat.reduceMul, ttL, tyL, ht'']
          refine IdxO.by hE'' 9000 (by omega) (by omega) ?_
          simp only [evX, reduceIte, reduceCtorEq, Nat.reduceLT, Nat.reduceAdd, Nat.reduceEqDiff, Nat.reduceBEq, Nat.reduceLeDiff, Nat.reduceMul, ttL, tyL, ht'']
          refine StG.byOD hE'' ht'' (j := j - 1) 9000 rfl rfl rfl rfl rfl hrow rfl (by simp) (by simp [tyL]) (by kernel_rfl) ?_
          simp only [evX, reduceIte, reduceCtorEq, Nat.reduceLT, Nat.reduceAdd, Nat.reduceEqDiff, Nat.reduceBEq, Nat.reduceLeDiff, Nat.reduceMul, ttL, tyL, ht'']
          have hpp := passPT_some hs
          have hset : (primsC (m.take j ++ l')).set (j - 1) (List.take ((((j - 1 : Nat) : Int)).toNat * 6 - (j - 1) * 6) (primC m[j - 1]) ++ primC (passPT m[j - 1] x).2.1) = primsC (m.take (j - 1) ++ (passPT m[j - 1] x).2.1 :: l') := by
            have e1 : m.take j = m.take (j - 1) ++ [m[j - 1]] := by
              conv => lhs; rw [show j = j - 1 + 1 by omega]
              rw [List.take_add_one, List.getElem?_eq_getElem hjm]
              rfl
            rw [Int.toNat_natCast, Nat.sub_self, List.take_zero, List.nil_append, e1]
            simp only [primsC, List.map_append, List.append_assoc, List.map_cons, List.map_nil, List.singleton_append]
            have e2 : (List.map primC (List.take (j - 1) m)).length = j - 1 := by simp; omega
            rw [List.set_append_right _ _ (by omega), e2, Nat.sub_self]
            rfl
          rw [hset]
          refine YldG.by hE'' hP'' ht'' rfl rfl (by rw [hps]; rfl) (by rw [hps]; simp) fun E3 hE3 hP3 ht3 h03 => ?_
          refine Go.run hE3 9000 ?_
          simp only [htm, hps, has, hbd]
          simp only [evX, reduceIte, reduceCtorEq, Nat.reduceLT, Nat.reduceAdd, Nat.reduceEqDiff, Nat.reduceBEq, Nat.reduceLeDiff, Nat.reduceMul, ttL, tyL, ht3]
          refine StG.by hE3 ht3 9000 rfl ?_
          simp only [evX, reduceIte, reduceCtorEq, Nat.reduceLT, Nat.reduceAdd, Nat.reduceEqDiff, Nat.reduceBEq, Nat.reduceLeDiff, Nat.reduceMul, ttL, tyL, ht3]
          refine AsgQ.by hE3 9000 rfl rfl ?_
          simp only [evX, reduceIte, reduceCtorEq, Nat.reduceLT, Nat.reduceAdd, Nat.reduceEqDiff, Nat.reduceBEq, Nat.reduceLeDiff, Nat.reduceMul, ttL, tyL, ht3]
          refine StG.byX hE3 ht3 9000 rfl rfl ?_
          simp only [evX, reduceIte, reduceCtorEq, Nat.reduceLT, Nat.reduceAdd, Nat.reduceEqDiff, Nat.reduceBEq, Nat.reduceLeDiff, Nat.reduceMul, ttL, tyL, ht3]
          refine StG.byX hE3 ht3 9000 rfl rfl ?_
          simp only [evX, reduceIte, reduceCtorEq, Nat.reduceLT, Nat.reduceAdd, Nat.reduceEqDiff, Nat.reduceBEq, Nat.reduceLeDiff, Nat.reduceMul, ttL, tyL, ht3]
          refine ⟨by kernel_rfl, ?_⟩
          refine YldQ.normal hE'' 9000 rfl rfl ?_
          simp only [evX, reduceIte, reduceCtorEq, Nat.reduceLT, Nat.reduceAdd, Nat.reduceEqDiff, Nat.reduceBEq, Nat.reduceLeDiff, Nat.reduceMul, ttL, tyL, ht'']
          subst htm; subst hps; subst has; subst hbd
          refine ⟨⟨(j - 1, (passPT m[j - 1] x).1, (passPT m[j - 1] x).2.1 :: l'), by simp only; omega, passOne_step hjm (by rw [show j - 1 + 1 = j by omega]; exact hone) hpp⟩, [0, 1, 2, 3, 4, 5, 6], Wk.of rfl (by simp) (by rw [h0'']; simp [fixB]) ?_ ?_ (by simp) (by simp), by simp only; omega⟩
          · simp [wkT, okA, wkP, cloE, Vam.look, sig]
            rw [wrap64 (by omega) (by omega)]
          · simp [wkBs, nthB, wkBx, wkL, okA, wkP, cloE, sig, wkT, Vam.look]
      · have hj0 : j = 0 := by simp at hb; omega
        subst hj0
        refine RngQ.by hE 9000 (.inl rfl) rfl rfl (by simp) rfl ?_
        simp only [htm]
        simp only [evX, reduceIte, reduceCtorEq, Nat.reduceLT, Nat.reduceAdd, Nat.reduceEqDiff, Nat.reduceBEq, Nat.reduceLeDiff, Nat.reduceMul, ttL, tyL, ht]
        have hd : decide (((0 : Nat) : Int) > 0) = false := by decide
        simp only [hd, evX, reduceIte, reduceCtorEq, Nat.reduceLT, Nat.reduceAdd, Nat.reduceEqDiff, Nat.reduceBEq, Nat.reduceLeDiff, Nat.reduceMul, ttL, tyL, ht]
        have hpos : 0 ≤ i := Nat.zero_le _
        refine AppG.by hE 9000 rfl rfl (by simp [rowLen]) (by simp; simp at hfl; omega) ?_
        simp only [evX, reduceIte, reduceCtorEq, Nat.reduceLT, Nat.reduceAdd, Nat.reduceEqDiff, Nat.reduceBEq, Nat.reduceLeDiff, Nat.reduceMul, ttL, tyL, ht]
        rw [show primsC f ++ [primC x] = primsC (f ++ [x]) by simp]
        have hst := passL_step hlt hpass (by simpa using hone)
        refine ⟨⟨(i + 1, f ++ [x], l'), by omega, hst⟩, [0, 8], Wk.of rfl (by simp) (by rw [h0]; simp [fixB]) (by simp [wkT, okA, wkP, cloE, Vam.look, sig, wrapN i (by omega)]) (by simp [wkBs, setBx, nthB, wkBx, wkL, okA, wkP, cloE, sig, wrapN i (by omega)]) (by simp) (by simp), by simp only; omega⟩
  · have hi' : i = b.length := by simp at hb; simp at hi; omega
    subst hi'
    have e : passLT a b = (f, m, true) := by
      simp only [List.take_length] at hpass
      rw [passLT, hpass]
    rw [e]
    exact RetQ.three (.inr rfl) rfl rfl rfl rfl rfl
end Go.Proofs.YtmfbcgheffdghaaGreat

/- Named patches that pass one another: the program's way. -/
namespace Go.Proofs.YtmfbcgheffdghaaGreat
open Go.Vam Go.Qm
set_option linter.unusedVariables false
set_option linter.unusedSimpArgs false
set_option maxRecDepth 8000
set_option maxHeartbeats 2000000

theorem ok_IndexId (l : List Qm.Id) (x : Qm.Id) (hl : l.length < 9223372036854775807) : Ok Tryz.prog 54 [idsA l, idA x] (.v (intA (idxI (fun y => idEq y x) l))) := by
  (refine Ok.code hT hM (fn := Tryz.f54) rfl rfl rfl _ _ rfl rfl (Nat.le_of_ble_eq_true rfl) fun E hE hP ht h0 hrd => ?_; refine Go.run hE 9000 ?_; simp only [Tryz.f54, evX, reduceIte, reduceCtorEq, Nat.reduceLT, Nat.reduceAdd, Nat.reduceEqDiff, Nat.reduceBEq, Nat.reduceLeDiff, Nat.reduceMul, ttL, tyL, ht])
  refine Loop.by hE (ι := {i : Nat // i ≤ l.length ∧ (l.take i).any (fun y => idEq y x) = false}) (fun i => ⟨19, [(0, idsA l), (3, .ptr 0 0), (7, intA l.length), (8, intA i.1)], [.cells ((idC x).map .c)], [], []⟩) (fun i => l.length - i.1) ⟨0, by simp⟩ 9000 ⟨[0], Wk.of rfl (by simp) (by rw [h0]; simp [fixB]) (by simp [wkT, okA, wkP, cloE, Vam.look, sig, ]) (by simp [wkBs, setBx, nthB, wkBx, wkL, okA, wkP, cloE, sig, ]) (by simp) (by simp)⟩ (by simp [h0]) ?_
  rintro ⟨i, hi, hall⟩
  simp only [evX, reduceIte, reduceCtorEq, Nat.reduceLT, Nat.reduceAdd, Nat.reduceEqDiff, Nat.reduceBEq, Nat.reduceLeDiff, Nat.reduceMul, ttL, tyL, ht]
  ((first | refine SelF.byN (fun hb => ?_) (fun hb => ?_) | refine SelF.by (fun hb => ?_) (fun hb => ?_)) <;> simp only [hb, evX, reduceIte, reduceCtorEq, Nat.reduceLT, Nat.reduceAdd, Nat.reduceEqDiff, Nat.reduceBEq, Nat.reduceLeDiff, Nat.reduceMul, ttL, tyL, ht])
  · simp only [decide_eq_true_eq] at hb
    have hlt : i < l.length := by omega
    refine IdxR.nat hE 9000 hlt rfl ?_
    simp only [evX, reduceIte, reduceCtorEq, Nat.reduceLT, Nat.reduceAdd, Nat.reduceEqDiff, Nat.reduceBEq, Nat.reduceLeDiff, Nat.reduceMul, ttL, tyL, ht]
    (refine HardOp.eqI hE 9000 rfl (hP ▸ eqT) rfl ?_ <;> simp only [evX, reduceIte, reduceCtorEq, Nat.reduceLT, Nat.reduceAdd, Nat.reduceEqDiff, Nat.reduceBEq, Nat.reduceLeDiff, Nat.reduceMul, ttL, tyL, ht])
    refine ⟨by kernel_rfl, ?_⟩
    have hc : (x.who == l[i].who && x.no == l[i].no) = idEq l[i] x := by rw [idEq_comm]; rfl
    simp only [hc, evX, reduceIte, reduceCtorEq, Nat.reduceLT, Nat.reduceAdd, Nat.reduceEqDiff, Nat.reduceBEq, Nat.reduceLeDiff, Nat.reduceMul, ttL, tyL, ht]
    ((first | refine SelF.byN (fun hb => ?_) (fun hb => ?_) | refine SelF.by (fun hb => ?_) (fun hb => ?_)) <;> simp only [hb, evX, reduceIte, reduceCtorEq, Nat.reduceLT, Nat.reduceAdd, Nat.reduceEqDiff, Nat.reduceBEq, Nat.reduceLeDiff, Nat.reduceMul, ttL, tyL, ht])
    · exact RetQ.c (.inr rfl) rfl (by rw [idxI_at hlt hall hb])
    · refine ⟨⟨i + 1, by omega, by rw [any_take hlt, hall, hb]; rfl⟩, [0], Wk.of rfl (by simp) (by rw [h0]; simp [fixB]) (by simp [wkT, okA, wkP, cloE, Vam.look, sig, wrapN i (by omega)]) (by simp [wkBs, setBx, nthB, wkBx, wkL, okA, wkP, cloE, sig, wrapN i (by omega)]) (by simp) (by simp), by simp only; omega⟩
  · exact RetQ.c (.inr rfl) rfl (by rw [idxI_none hi (by simpa using hb) hall])
theorem ok_ContainsId (l : List Qm.Id) (x : Qm.Id) (hl : l.length < 9223372036854775807) : Ok Tryz.prog 35 [idsA l, idA x] (.v (boolA (l.any fun y => idEq y x))) := by
  (refine Ok.code hT hM (fn := Tryz.f35) rfl rfl rfl _ _ rfl rfl (Nat.le_of_ble_eq_true rfl) fun E hE hP ht h0 hrd => ?_; refine Go.run hE 9000 ?_; simp only [Tryz.f35, evX, reduceIte, reduceCtorEq, Nat.reduceLT, Nat.reduceAdd, Nat.reduceEqDiff, Nat.reduceBEq, Nat.reduceLeDiff, Nat.reduceMul, ttL, tyL, ht])
  (refine CallG.ok hE 9000 (hP ▸ ok_IndexId l x hl) rfl rfl ?_ <;> simp only [evX, reduceIte, reduceCtorEq, Nat.reduceLT, Nat.reduceAdd, Nat.reduceEqDiff, Nat.reduceBEq, Nat.reduceLeDiff, Nat.reduceMul, ttL, tyL, ht])
  exact RetQ.bool (.inr rfl) rfl (idxI_nn _ l)
theorem ok_CloneId (a : List Qm.Id) (hl : a.length * 16 ≤ 140737488355328) : Ok Tryz.prog 82 [idsA a] (.v (idsA a)) := by
  (refine Ok.code hT hM (fn := Tryz.f82) rfl rfl rfl _ _ rfl rfl (Nat.le_of_ble_eq_true rfl) fun E hE hP ht h0 hrd => ?_; refine Go.run hE 9000 ?_; simp only [Tryz.f82, evX, reduceIte, reduceCtorEq, Nat.reduceLT, Nat.reduceAdd, Nat.reduceEqDiff, Nat.reduceBEq, Nat.reduceLeDiff, Nat.reduceMul, ttL, tyL, ht])
  refine IsNilG.sl hE 9000 fun b hb0 => ?_
  simp only [evX, reduceIte, reduceCtorEq, Nat.reduceLT, Nat.reduceAdd, Nat.reduceEqDiff, Nat.reduceBEq, Nat.reduceLeDiff, Nat.reduceMul, ttL, tyL, ht]
  ((first | refine SelF.byN (fun hb => ?_) (fun hb => ?_) | refine SelF.by (fun hb => ?_) (fun hb => ?_)) <;> simp only [hb, evX, reduceIte, reduceCtorEq, Nat.reduceLT, Nat.reduceAdd, Nat.reduceEqDiff, Nat.reduceBEq, Nat.reduceLeDiff, Nat.reduceMul, ttL, tyL, ht])
  · have ha : a = [] := by have := hb0 hb; simpa using this
    subst ha
    exact RetQ.val (.inr rfl) rfl rfl rfl
  · refine AppG.by hE 9000 rfl rfl (by simp [rowLen]) (by simpa using hl) ?_
    simp only [evX, reduceIte, reduceCtorEq, Nat.reduceLT, Nat.reduceAdd, Nat.reduceEqDiff, Nat.reduceBEq, Nat.reduceLeDiff, Nat.reduceMul, ttL, tyL, ht]
    exact RetQ.ownV (.inr rfl) rfl rfl rfl rfl
theorem ok_with (p : Named) (l : List Prim) (hd : p.deps.length * 16 ≤ 140737488355328) : Ok Tryz.prog 66 [namedA p, primsA l] (.v (namedA (withL p l))) := by
  (refine Ok.code hT hM (fn := Tryz.f66) rfl rfl rfl _ _ rfl rfl (Nat.le_of_ble_eq_true rfl) fun E hE hP ht h0 hrd => ?_; refine Go.run hE 9000 ?_; simp only [Tryz.f66, evX, reduceIte, reduceCtorEq, Nat.reduceLT, Nat.reduceAdd, Nat.reduceEqDiff, Nat.reduceBEq, Nat.reduceLeDiff, Nat.reduceMul, ttL, tyL, ht])
  (refine CallG.ok hE 9000 (hP ▸ ok_CloneId p.deps hd) rfl rfl ?_ <;> simp only [evX, reduceIte, reduceCtorEq, Nat.reduceLT, Nat.reduceAdd, Nat.reduceEqDiff, Nat.reduceBEq, Nat.reduceLeDiff, Nat.reduceMul, ttL, tyL, ht])
  (refine StG.by hE ht 9000 rfl ?_ <;> simp only [evX, reduceIte, reduceCtorEq, Nat.reduceLT, Nat.reduceAdd, Nat.reduceEqDiff, Nat.reduceBEq, Nat.reduceLeDiff, Nat.reduceMul, ttL, tyL, ht])
  (refine StG.by hE ht 9000 rfl ?_ <;> simp only [evX, reduceIte, reduceCtorEq, Nat.reduceLT, Nat.reduceAdd, Nat.reduceEqDiff, Nat.reduceBEq, Nat.reduceLeDiff, Nat.reduceMul, ttL, tyL, ht])
  (refine StG.by hE ht 9000 rfl ?_ <;> simp only [evX, reduceIte, reduceCtorEq, Nat.reduceLT, Nat.reduceAdd, Nat.reduceEqDiff, Nat.reduceBEq, Nat.reduceLeDiff, Nat.reduceMul, ttL, tyL, ht])
  exact RetQ.cell (.inr rfl) rfl rfl rfl rfl rfl rfl rfl rfl rfl
def namedZ : Named := ⟨⟨0, 0⟩, [], ⟨#[]⟩, []⟩
def passNT (p q : Named) : Named × Named × Bool := match passN p q with
  | some r => (r.1, r.2, true)
  | none => (namedZ, namedZ, false)
structure okN (p : Named) : Prop where
  b : namedB p
  r : namedR p
theorem okN.l {p : Named} (h : okN p) : ∀ q ∈ p.l, okP q := fun q hq => ⟨h.b.2.2 q hq, h.r.2.2 q hq⟩
theorem okN_pass (p q x y : Named) (hp : okN p) (hq : okN q) (h : passN p q = some (x, y)) : okN x ∧ okN y := by
  obtain ⟨h1, f, m, h2, rfl, rfl⟩ := passN_iff.1 h
  obtain ⟨k1, k2⟩ := passL_keep okP_pass h2 hp.l hq.l
  obtain ⟨l1, l2⟩ := passL_len h2
  exact ⟨⟨⟨hq.b.1, by rw [show (withL q f).l = f from rfl, l1]; exact hq.b.2.1, fun z hz => (k1 z hz).1⟩, ⟨hq.r.1, hq.r.2.1, fun z hz => (k1 z hz).2⟩⟩,
    ⟨⟨hp.b.1, by rw [show (withL p m).l = m from rfl, l2]; exact hp.b.2.1, fun z hz => (k2 z hz).1⟩, ⟨hp.r.1, hp.r.2.1, fun z hz => (k2 z hz).2⟩⟩⟩
theorem ok_tradePass (p q : Named) (kp : okN p) (kq : okN q) : Ok Tryz.prog 68 [namedA p, namedA q] (.v (.tup [namedA (passNT p q).1, namedA (passNT p q).2.1, boolA (passNT p q).2.2])) := by
  have h1 := kp.b.1
  have h2 := kp.b.2.1
  have h3 := kq.b.1
  have h4 := kq.b.2.1
  simp only [Big] at h1 h2 h3 h4
  (refine Ok.code hT hM (fn := Tryz.f68) rfl rfl rfl _ _ rfl rfl (Nat.le_of_ble_eq_true rfl) fun E hE hP ht h0 hrd => ?_; refine Go.run hE 9000 ?_; simp only [Tryz.f68, evX, reduceIte, reduceCtorEq, Nat.reduceLT, Nat.reduceAdd, Nat.reduceEqDiff, Nat.reduceBEq, Nat.reduceLeDiff, Nat.reduceMul, ttL, tyL, ht])
  (refine CallG.ok hE 9000 (hP ▸ ok_flowPass p.l q.l (by omega) (by omega) kp.l kq.l) rfl rfl ?_ <;> simp only [evX, reduceIte, reduceCtorEq, Nat.reduceLT, Nat.reduceAdd, Nat.reduceEqDiff, Nat.reduceBEq, Nat.reduceLeDiff, Nat.reduceMul, ttL, tyL, ht])
  cases hs : passL p.l q.l with
  | none =>
    have e' : passLT p.l q.l = ([], [], false) := by rw [passLT, hs]
    have e : passNT p q = (namedZ, namedZ, false) := by
      rw [passNT, passN]
      split
      · rename_i r h
        split at h
        · simp at h
        · rw [hs] at h; simp at h
      · rfl
    simp only [e', evX, reduceIte, reduceCtorEq, Nat.reduceLT, Nat.reduceAdd, Nat.reduceEqDiff, Nat.reduceBEq, Nat.reduceLeDiff, Nat.reduceMul, ttL, tyL, ht, Bool.not_false]
    (refine StG.by hE ht 9000 rfl ?_ <;> simp only [evX, reduceIte, reduceCtorEq, Nat.reduceLT, Nat.reduceAdd, Nat.reduceEqDiff, Nat.reduceBEq, Nat.reduceLeDiff, Nat.reduceMul, ttL, tyL, ht])
    (refine StG.by hE ht 9000 rfl ?_ <;> simp only [evX, reduceIte, reduceCtorEq, Nat.reduceLT, Nat.reduceAdd, Nat.reduceEqDiff, Nat.reduceBEq, Nat.reduceLeDiff, Nat.reduceMul, ttL, tyL, ht])
    rw [e]
    exact RetQ.cct (.inr rfl) (cellV rfl rfl rfl rfl rfl rfl rfl rfl rfl) (cellV rfl rfl rfl rfl rfl rfl rfl rfl rfl) rfl rfl
  | some r =>
    have e' : passLT p.l q.l = (r.1, r.2, true) := by rw [passLT, hs]
    simp only [e', evX, reduceIte, reduceCtorEq, Nat.reduceLT, Nat.reduceAdd, Nat.reduceEqDiff, Nat.reduceBEq, Nat.reduceLeDiff, Nat.reduceMul, ttL, tyL, ht, Bool.not_true]
    (refine CallG.ok hE 9000 (hP ▸ ok_ContainsId q.deps p.id (by omega)) rfl rfl ?_ <;> simp only [evX, reduceIte, reduceCtorEq, Nat.reduceLT, Nat.reduceAdd, Nat.reduceEqDiff, Nat.reduceBEq, Nat.reduceLeDiff, Nat.reduceMul, ttL, tyL, ht])
    cases hd : q.deps.any (fun y => idEq y p.id) <;> simp only [evX, reduceIte, reduceCtorEq, Nat.reduceLT, Nat.reduceAdd, Nat.reduceEqDiff, Nat.reduceBEq, Nat.reduceLeDiff, Nat.reduceMul, ttL, tyL, ht]
    · have e : passNT p q = (withL q r.1, withL p r.2, true) := by rw [passNT, passN, if_neg (by rw [hd]; simp), hs]
      (refine CallG.ok hE 9000 (hP ▸ ok_with q r.1 (by omega)) rfl rfl ?_ <;> simp only [evX, reduceIte, reduceCtorEq, Nat.reduceLT, Nat.reduceAdd, Nat.reduceEqDiff, Nat.reduceBEq, Nat.reduceLeDiff, Nat.reduceMul, ttL, tyL, ht])
      (refine CallG.ok hE 9000 (hP ▸ ok_with p r.2 (by omega)) rfl rfl ?_ <;> simp only [evX, reduceIte, reduceCtorEq, Nat.reduceLT, Nat.reduceAdd, Nat.reduceEqDiff, Nat.reduceBEq, Nat.reduceLeDiff, Nat.reduceMul, ttL, tyL, ht])
      (refine StG.byX hE ht 9000 rfl rfl ?_ <;> simp only [evX, reduceIte, reduceCtorEq, Nat.reduceLT, Nat.reduceAdd, Nat.reduceEqDiff, Nat.reduceBEq, Nat.reduceLeDiff, Nat.reduceMul, ttL, tyL, ht])
      (refine StG.byX hE ht 9000 rfl rfl ?_ <;> simp only [evX, reduceIte, reduceCtorEq, Nat.reduceLT, Nat.reduceAdd, Nat.reduceEqDiff, Nat.reduceBEq, Nat.reduceLeDiff, Nat.reduceMul, ttL, tyL, ht])
      refine ⟨by kernel_rfl, ?_⟩
      rw [e]
      exact RetQ.cct (.inr rfl) (cellV rfl rfl rfl rfl rfl rfl rfl rfl rfl) (cellV rfl rfl rfl rfl rfl rfl rfl rfl rfl) rfl rfl
    · have e : passNT p q = (namedZ, namedZ, false) := by rw [passNT, passN, if_pos hd]
      (refine StG.by hE ht 9000 rfl ?_ <;> simp only [evX, reduceIte, reduceCtorEq, Nat.reduceLT, Nat.reduceAdd, Nat.reduceEqDiff, Nat.reduceBEq, Nat.reduceLeDiff, Nat.reduceMul, ttL, tyL, ht])
      (refine StG.by hE ht 9000 rfl ?_ <;> simp only [evX, reduceIte, reduceCtorEq, Nat.reduceLT, Nat.reduceAdd, Nat.reduceEqDiff, Nat.reduceBEq, Nat.reduceLeDiff, Nat.reduceMul, ttL, tyL, ht])
      rw [e]
      exact RetQ.cct (.inr rfl) (cellV rfl rfl rfl rfl rfl rfl rfl rfl rfl) (cellV rfl rfl rfl rfl rfl rfl rfl rfl rfl) rfl rfl
end Go.Proofs.YtmfbcgheffdghaaGreat
