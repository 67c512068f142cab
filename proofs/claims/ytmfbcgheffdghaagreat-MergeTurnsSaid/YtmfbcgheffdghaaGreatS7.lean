/- The program's functions, walked (part 7). -/
import Derived.Test.YtmfbcgheffdghaaGreatS5
import Derived.Test.YtmfbcgheffdghaaGreatG11
import Derived.Test.YtmfbcgheffdghaaGreatS6
/- Hunks and changes that pass one another. -/
namespace Go.Proofs.YtmfbcgheffdghaaGreat
open Go.Vam Go.Qm
set_option linter.unusedVariables false
set_option linter.unusedSimpArgs false
set_option maxRecDepth 8000

theorem ok_by (h : Hunk) (hB : hunkB h) : Ok Tryz.prog 121 [hunkA h] (.v (intA (byH h))) := by
  have h1 := hB.1
  have h2 := hB.2
  have hw : IntKind.i64.wrap ((h.new.length : Int) - (h.old.length : Int)) = byH h := by rw [IntKind.wrap_i64, byH]; omega
  (refine Ok.code hT hM (fn := Tryz.f121) rfl rfl rfl _ _ rfl rfl (Nat.le_of_ble_eq_true rfl) fun E hE hP ht h0 hrd => ?_; refine Go.run hE 9000 ?_; simp only [Tryz.f121, evX, reduceIte, reduceCtorEq, Nat.reduceLT, Nat.reduceAdd, Nat.reduceEqDiff, Nat.reduceBEq, Nat.reduceLeDiff, Nat.reduceMul, ttL, tyL, ht])
  exact RetQ.c (.inr rfl) rfl (by rw [hw])
theorem ok_way1 (p q : Hunk) (hB : hunkB p) (ho : hunkOk p = true) : Ok Tryz.prog 120 [.pt (hunkC q), .pt (hunkC p)] (.v (.tup [boolA (decide (q.at_ > p.at_ + p.new.length)), intA 0, intA (-byH p)])) := by
  have h1 := hB.1
  have h2 := hB.2
  have h3 := hunkOk_at ho
  have hw : IntKind.i64.wrap (p.at_ + (p.new.length : Int)) = p.at_ + p.new.length := by rw [IntKind.wrap_i64]; omega
  have hw2 : IntKind.i64.wrap (-byH p) = -byH p := by rw [IntKind.wrap_i64, byH]; omega
  (refine Ok.code hT hM (fn := Tryz.f120) rfl rfl rfl _ _ rfl rfl (Nat.le_of_ble_eq_true rfl) fun E hE hP ht h0 hrd => ?_; refine Go.run hE 9000 ?_; simp only [Tryz.f120, evX, reduceIte, reduceCtorEq, Nat.reduceLT, Nat.reduceAdd, Nat.reduceEqDiff, Nat.reduceBEq, Nat.reduceLeDiff, Nat.reduceMul, ttL, tyL, ht])
  (refine CallG.ok hE 9000 (hP ▸ ok_by p hB) rfl rfl ?_ <;> simp only [evX, reduceIte, reduceCtorEq, Nat.reduceLT, Nat.reduceAdd, Nat.reduceEqDiff, Nat.reduceBEq, Nat.reduceLeDiff, Nat.reduceMul, ttL, tyL, ht])
  refine ⟨by kernel_rfl, ?_⟩
  refine RetQ.three (.inr rfl) rfl rfl rfl rfl ?_
  rw [hw, hw2]; rfl
theorem ok_way2 (p q : Hunk) (hB : hunkB q) (ho : hunkOk q = true) : Ok Tryz.prog 122 [.pt (hunkC p), .pt (hunkC q)] (.v (.tup [boolA (decide (p.at_ > q.at_ + q.old.length)), intA (byH q), intA 0])) := by
  have h1 := hB.1
  have h2 := hB.2
  have h3 := hunkOk_at ho
  have hw : IntKind.i64.wrap (q.at_ + (q.old.length : Int)) = q.at_ + q.old.length := by rw [IntKind.wrap_i64]; omega
  (refine Ok.code hT hM (fn := Tryz.f122) rfl rfl rfl _ _ rfl rfl (Nat.le_of_ble_eq_true rfl) fun E hE hP ht h0 hrd => ?_; refine Go.run hE 9000 ?_; simp only [Tryz.f122, evX, reduceIte, reduceCtorEq, Nat.reduceLT, Nat.reduceAdd, Nat.reduceEqDiff, Nat.reduceBEq, Nat.reduceLeDiff, Nat.reduceMul, ttL, tyL, ht])
  (refine CallG.ok hE 9000 (hP ▸ ok_by q hB) rfl rfl ?_ <;> simp only [evX, reduceIte, reduceCtorEq, Nat.reduceLT, Nat.reduceAdd, Nat.reduceEqDiff, Nat.reduceBEq, Nat.reduceLeDiff, Nat.reduceMul, ttL, tyL, ht])
  refine ⟨by kernel_rfl, ?_⟩
  refine RetQ.three (.inr rfl) rfl rfl rfl rfl ?_
  rw [hw]; rfl
theorem ok_ways (p q : Hunk) : Ok Tryz.prog 103 [hunkA p, hunkA q] (.v (.c (.sl [[.fn 120 [hunkC q, hunkC p]], [.fn 122 [hunkC p, hunkC q]]]))) := by
  (refine Ok.code hT hM (fn := Tryz.f103) rfl rfl rfl _ _ rfl rfl (Nat.le_of_ble_eq_true rfl) fun E hE hP ht h0 hrd => ?_; refine Go.run hE 9000 ?_; simp only [Tryz.f103, evX, reduceIte, reduceCtorEq, Nat.reduceLT, Nat.reduceAdd, Nat.reduceEqDiff, Nat.reduceBEq, Nat.reduceLeDiff, Nat.reduceMul, ttL, tyL, ht])
  exact RetQ.ownV (.inr rfl) rfl rfl rfl rfl
theorem ok_swapOwn (h : Hunk) (d : Int) (hB : hunkB h) (hd : -9223372036854775808 ≤ h.at_ + d ∧ h.at_ + d ≤ 9223372036854775807) : Ok Tryz.prog 104 [hunkA h, intA d] (.v (hunkA (moved h d))) := by
  have hw : IntKind.i64.wrap (h.at_ + d) = h.at_ + d := by rw [IntKind.wrap_i64]; omega
  (refine Ok.code hT hM (fn := Tryz.f104) rfl rfl rfl _ _ rfl rfl (Nat.le_of_ble_eq_true rfl) fun E hE hP ht h0 hrd => ?_; refine Go.run hE 9000 ?_; simp only [Tryz.f104, evX, reduceIte, reduceCtorEq, Nat.reduceLT, Nat.reduceAdd, Nat.reduceEqDiff, Nat.reduceBEq, Nat.reduceLeDiff, Nat.reduceMul, ttL, tyL, ht])
  (refine CallG.ok hE 9000 (hP ▸ ok_CloneStr h.old hB.1) rfl rfl ?_ <;> simp only [evX, reduceIte, reduceCtorEq, Nat.reduceLT, Nat.reduceAdd, Nat.reduceEqDiff, Nat.reduceBEq, Nat.reduceLeDiff, Nat.reduceMul, ttL, tyL, ht])
  (refine CallG.ok hE 9000 (hP ▸ ok_CloneStr h.new hB.2) rfl rfl ?_ <;> simp only [evX, reduceIte, reduceCtorEq, Nat.reduceLT, Nat.reduceAdd, Nat.reduceEqDiff, Nat.reduceBEq, Nat.reduceLeDiff, Nat.reduceMul, ttL, tyL, ht])
  (refine StG.byD hE ht 9000 rfl (by kernel_rfl) ?_ <;> simp only [evX, reduceIte, reduceCtorEq, Nat.reduceLT, Nat.reduceAdd, Nat.reduceEqDiff, Nat.reduceBEq, Nat.reduceLeDiff, Nat.reduceMul, ttL, tyL, ht])
  exact RetQ.cell (.inr rfl) rfl rfl rfl rfl rfl rfl rfl rfl (by simp only [hw]; rfl)
def passHT (p q : Hunk) : Hunk × Hunk × Bool := match passH p q with
  | some r => (r.1, r.2, true)
  | none => (hunkZ, hunkZ, false)
theorem ok_swapPass (p q : Hunk) (bP : hunkB p) (bQ : hunkB q) (rP : hunkR p) (rQ : hunkR q) : Ok Tryz.prog 79 [hunkA p, hunkA q] (.v (.tup [hunkA (passHT p q).1, hunkA (passHT p q).2.1, boolA (passHT p q).2.2])) := by
  cases h1 : hunkOk p with
  | false =>
    have e : passHT p q = (hunkZ, hunkZ, false) := by rw [passHT, passH, if_neg (by rw [h1]; simp)]
    (refine Ok.code hT hM (fn := Tryz.f79) rfl rfl rfl _ _ rfl rfl (Nat.le_of_ble_eq_true rfl) fun E hE hP ht h0 hrd => ?_; refine Go.run hE 9000 ?_; simp only [Tryz.f79, evX, reduceIte, reduceCtorEq, Nat.reduceLT, Nat.reduceAdd, Nat.reduceEqDiff, Nat.reduceBEq, Nat.reduceLeDiff, Nat.reduceMul, ttL, tyL, ht])
    (refine CallG.ok hE 9000 (hP ▸ ok_hunkMay p) rfl rfl ?_ <;> simp only [evX, reduceIte, reduceCtorEq, Nat.reduceLT, Nat.reduceAdd, Nat.reduceEqDiff, Nat.reduceBEq, Nat.reduceLeDiff, Nat.reduceMul, ttL, tyL, ht])
    simp only [h1, evX, reduceIte, reduceCtorEq, Nat.reduceLT, Nat.reduceAdd, Nat.reduceEqDiff, Nat.reduceBEq, Nat.reduceLeDiff, Nat.reduceMul, ttL, tyL, ht, Bool.not_false]
    (refine StG.by hE ht 9000 rfl ?_ <;> simp only [evX, reduceIte, reduceCtorEq, Nat.reduceLT, Nat.reduceAdd, Nat.reduceEqDiff, Nat.reduceBEq, Nat.reduceLeDiff, Nat.reduceMul, ttL, tyL, ht])
    (refine StG.by hE ht 9000 rfl ?_ <;> simp only [evX, reduceIte, reduceCtorEq, Nat.reduceLT, Nat.reduceAdd, Nat.reduceEqDiff, Nat.reduceBEq, Nat.reduceLeDiff, Nat.reduceMul, ttL, tyL, ht])
    rw [e]
    exact RetQ.cct (.inr rfl) (cellV rfl rfl rfl rfl rfl rfl rfl rfl rfl) (cellV rfl rfl rfl rfl rfl rfl rfl rfl rfl) rfl rfl
  | true =>
    cases h2 : hunkOk q with
    | false =>
      have e : passHT p q = (hunkZ, hunkZ, false) := by rw [passHT, passH, if_neg (by rw [h2]; simp)]
      (refine Ok.code hT hM (fn := Tryz.f79) rfl rfl rfl _ _ rfl rfl (Nat.le_of_ble_eq_true rfl) fun E hE hP ht h0 hrd => ?_; refine Go.run hE 9000 ?_; simp only [Tryz.f79, evX, reduceIte, reduceCtorEq, Nat.reduceLT, Nat.reduceAdd, Nat.reduceEqDiff, Nat.reduceBEq, Nat.reduceLeDiff, Nat.reduceMul, ttL, tyL, ht])
      (refine CallG.ok hE 9000 (hP ▸ ok_hunkMay p) rfl rfl ?_ <;> simp only [evX, reduceIte, reduceCtorEq, Nat.reduceLT, Nat.reduceAdd, Nat.reduceEqDiff, Nat.reduceBEq, Nat.reduceLeDiff, Nat.reduceMul, ttL, tyL, ht])
      simp only [h1, evX, reduceIte, reduceCtorEq, Nat.reduceLT, Nat.reduceAdd, Nat.reduceEqDiff, Nat.reduceBEq, Nat.reduceLeDiff, Nat.reduceMul, ttL, tyL, ht, Bool.not_true]
      (refine CallG.ok hE 9000 (hP ▸ ok_hunkMay q) rfl rfl ?_ <;> simp only [evX, reduceIte, reduceCtorEq, Nat.reduceLT, Nat.reduceAdd, Nat.reduceEqDiff, Nat.reduceBEq, Nat.reduceLeDiff, Nat.reduceMul, ttL, tyL, ht])
      simp only [h2, evX, reduceIte, reduceCtorEq, Nat.reduceLT, Nat.reduceAdd, Nat.reduceEqDiff, Nat.reduceBEq, Nat.reduceLeDiff, Nat.reduceMul, ttL, tyL, ht, Bool.not_false]
      (refine StG.by hE ht 9000 rfl ?_ <;> simp only [evX, reduceIte, reduceCtorEq, Nat.reduceLT, Nat.reduceAdd, Nat.reduceEqDiff, Nat.reduceBEq, Nat.reduceLeDiff, Nat.reduceMul, ttL, tyL, ht])
      (refine StG.by hE ht 9000 rfl ?_ <;> simp only [evX, reduceIte, reduceCtorEq, Nat.reduceLT, Nat.reduceAdd, Nat.reduceEqDiff, Nat.reduceBEq, Nat.reduceLeDiff, Nat.reduceMul, ttL, tyL, ht])
      rw [e]
      exact RetQ.cct (.inr rfl) (cellV rfl rfl rfl rfl rfl rfl rfl rfl rfl) (cellV rfl rfl rfl rfl rfl rfl rfl rfl rfl) rfl rfl
    | true =>
      have o1 := hunkOk_at h1
      have o2 := hunkOk_at h2
      have l1 := hunkOk_len h1
      have l2 := hunkOk_len h2
      (refine Ok.code hT hM (fn := Tryz.f79) rfl rfl rfl _ _ rfl rfl (Nat.le_of_ble_eq_true rfl) fun E hE hP ht h0 hrd => ?_; refine Go.run hE 9000 ?_; simp only [Tryz.f79, evX, reduceIte, reduceCtorEq, Nat.reduceLT, Nat.reduceAdd, Nat.reduceEqDiff, Nat.reduceBEq, Nat.reduceLeDiff, Nat.reduceMul, ttL, tyL, ht])
      (refine CallG.ok hE 9000 (hP ▸ ok_hunkMay p) rfl rfl ?_ <;> simp only [evX, reduceIte, reduceCtorEq, Nat.reduceLT, Nat.reduceAdd, Nat.reduceEqDiff, Nat.reduceBEq, Nat.reduceLeDiff, Nat.reduceMul, ttL, tyL, ht])
      simp only [h1, evX, reduceIte, reduceCtorEq, Nat.reduceLT, Nat.reduceAdd, Nat.reduceEqDiff, Nat.reduceBEq, Nat.reduceLeDiff, Nat.reduceMul, ttL, tyL, ht, Bool.not_true]
      (refine CallG.ok hE 9000 (hP ▸ ok_hunkMay q) rfl rfl ?_ <;> simp only [evX, reduceIte, reduceCtorEq, Nat.reduceLT, Nat.reduceAdd, Nat.reduceEqDiff, Nat.reduceBEq, Nat.reduceLeDiff, Nat.reduceMul, ttL, tyL, ht])
      simp only [h2, evX, reduceIte, reduceCtorEq, Nat.reduceLT, Nat.reduceAdd, Nat.reduceEqDiff, Nat.reduceBEq, Nat.reduceLeDiff, Nat.reduceMul, ttL, tyL, ht, Bool.not_true]
      (refine CallG.ok hE 9000 (hP ▸ ok_ways p q) rfl rfl ?_ <;> simp only [evX, reduceIte, reduceCtorEq, Nat.reduceLT, Nat.reduceAdd, Nat.reduceEqDiff, Nat.reduceBEq, Nat.reduceLeDiff, Nat.reduceMul, ttL, tyL, ht])
      refine Loop.by hE (ι := {i : Nat // i ≤ 2 ∧ (1 ≤ i → ¬ q.at_ > p.at_ + p.new.length) ∧ (2 ≤ i → ¬ p.at_ > q.at_ + q.old.length)}) (fun i => ⟨61, [(2, .ptr 0 0), (3, .ptr 1 0), (4, .ptr 2 0), (5, .ptr 3 0), (24, .c (.sl [[.fn 120 [hunkC q, hunkC p]], [.fn 122 [hunkC p, hunkC q]]])), (25, intA 2), (26, intA i.1)], [.cells [intA p.at_, strsA p.old, strsA p.new], .cells [intA q.at_, strsA q.old, strsA q.new], .cells [intA 0, .nil, .nil], .cells [intA 0, .nil, .nil]], [], []⟩) (fun i => 2 - i.1) ⟨0, by simp⟩ 9000 ⟨[0, 1, 2, 3], Wk.of rfl (by simp) (by rw [h0]; simp [fixB]) (by simp [wkT, okA, wkP, cloE, Vam.look, sig, ]) (by simp [wkBs, setBx, nthB, wkBx, wkL, okA, wkP, cloE, sig, ]) (by simp) (by simp)⟩ (by simp [h0]) ?_
      rintro ⟨i, hi, n1, n2⟩
      simp only [evX, reduceIte, reduceCtorEq, Nat.reduceLT, Nat.reduceAdd, Nat.reduceEqDiff, Nat.reduceBEq, Nat.reduceLeDiff, Nat.reduceMul, ttL, tyL, ht]
      ((first | refine SelF.byN (fun hb => ?_) (fun hb => ?_) | refine SelF.by (fun hb => ?_) (fun hb => ?_)) <;> simp only [hb, evX, reduceIte, reduceCtorEq, Nat.reduceLT, Nat.reduceAdd, Nat.reduceEqDiff, Nat.reduceBEq, Nat.reduceLeDiff, Nat.reduceMul, ttL, tyL, ht])
      · simp only [decide_eq_true_eq] at hb
        have hi2 : i = 0 ∨ i = 1 := by omega
        rcases hi2 with rfl | rfl
        · refine IdxR.by hE 9000 (by decide) rfl rfl ?_
          simp only [evX, reduceIte, reduceCtorEq, Nat.reduceLT, Nat.reduceAdd, Nat.reduceEqDiff, Nat.reduceBEq, Nat.reduceLeDiff, Nat.reduceMul, ttL, tyL, ht]
          (refine CallG.ok hE 9000 (hP ▸ ok_way1 p q bP h1) rfl rfl ?_ <;> simp only [evX, reduceIte, reduceCtorEq, Nat.reduceLT, Nat.reduceAdd, Nat.reduceEqDiff, Nat.reduceBEq, Nat.reduceLeDiff, Nat.reduceMul, ttL, tyL, ht])
          have w0 : IntKind.i64.wrap (p.at_ + 0) = p.at_ := by rw [IntKind.wrap_i64]; omega
          have w1 : IntKind.i64.wrap (q.at_ + -byH p) = q.at_ - byH p := by rw [IntKind.wrap_i64, byH]; omega
          have p0 : decide (p.at_ ≤ 1048576) = true := by simpa using o1.2
          ((first | refine SelF.byN (fun hb => ?_) (fun hb => ?_) | refine SelF.by (fun hb => ?_) (fun hb => ?_)) <;> simp only [hb, evX, reduceIte, reduceCtorEq, Nat.reduceLT, Nat.reduceAdd, Nat.reduceEqDiff, Nat.reduceBEq, Nat.reduceLeDiff, Nat.reduceMul, ttL, tyL, ht])
          · have k1 : q.at_ > p.at_ + p.new.length := by simpa using hb
            simp only [w0, w1, p0, evX, reduceIte, reduceCtorEq, Nat.reduceLT, Nat.reduceAdd, Nat.reduceEqDiff, Nat.reduceBEq, Nat.reduceLeDiff, Nat.reduceMul, ttL, tyL, ht]
            ((first | refine SelF.byN (fun hb => ?_) (fun hb => ?_) | refine SelF.by (fun hb => ?_) (fun hb => ?_)) <;> simp only [hb, evX, reduceIte, reduceCtorEq, Nat.reduceLT, Nat.reduceAdd, Nat.reduceEqDiff, Nat.reduceBEq, Nat.reduceLeDiff, Nat.reduceMul, ttL, tyL, ht])
            · have k2 : q.at_ - byH p ≤ 1048576 := by simpa using hb
              (refine CallG.ok hE 9000 (hP ▸ ok_swapOwn q (-byH p) bQ (by unfold byH; omega)) rfl rfl ?_ <;> simp only [evX, reduceIte, reduceCtorEq, Nat.reduceLT, Nat.reduceAdd, Nat.reduceEqDiff, Nat.reduceBEq, Nat.reduceLeDiff, Nat.reduceMul, ttL, tyL, ht])
              (refine CallG.ok hE 9000 (hP ▸ ok_swapOwn p 0 bP (by omega)) rfl rfl ?_ <;> simp only [evX, reduceIte, reduceCtorEq, Nat.reduceLT, Nat.reduceAdd, Nat.reduceEqDiff, Nat.reduceBEq, Nat.reduceLeDiff, Nat.reduceMul, ttL, tyL, ht])
              (refine StG.byX hE ht 9000 rfl rfl ?_ <;> simp only [evX, reduceIte, reduceCtorEq, Nat.reduceLT, Nat.reduceAdd, Nat.reduceEqDiff, Nat.reduceBEq, Nat.reduceLeDiff, Nat.reduceMul, ttL, tyL, ht])
              (refine StG.byX hE ht 9000 rfl rfl ?_ <;> simp only [evX, reduceIte, reduceCtorEq, Nat.reduceLT, Nat.reduceAdd, Nat.reduceEqDiff, Nat.reduceBEq, Nat.reduceLeDiff, Nat.reduceMul, ttL, tyL, ht])
              refine ⟨by kernel_rfl, ?_⟩
              have e : passHT p q = (moved q (-byH p), moved p 0, true) := by
                rw [passHT, passH, if_pos ⟨h1, h2⟩, if_pos k1, if_pos k2, moved_zero]
              rw [e]
              exact RetQ.cct (.inr rfl) (cellV rfl rfl rfl rfl rfl rfl rfl rfl rfl) (cellV rfl rfl rfl rfl rfl rfl rfl rfl rfl) rfl rfl
            · have k2 : ¬ q.at_ - byH p ≤ 1048576 := by simpa using hb
              (refine StG.by hE ht 9000 rfl ?_ <;> simp only [evX, reduceIte, reduceCtorEq, Nat.reduceLT, Nat.reduceAdd, Nat.reduceEqDiff, Nat.reduceBEq, Nat.reduceLeDiff, Nat.reduceMul, ttL, tyL, ht])
              (refine StG.by hE ht 9000 rfl ?_ <;> simp only [evX, reduceIte, reduceCtorEq, Nat.reduceLT, Nat.reduceAdd, Nat.reduceEqDiff, Nat.reduceBEq, Nat.reduceLeDiff, Nat.reduceMul, ttL, tyL, ht])
              have e : passHT p q = (hunkZ, hunkZ, false) := by
                rw [passHT, passH, if_pos ⟨h1, h2⟩, if_pos k1, if_neg k2]
              rw [e]
              exact RetQ.cct (.inr rfl) (cellV rfl rfl rfl rfl rfl rfl rfl rfl rfl) (cellV rfl rfl rfl rfl rfl rfl rfl rfl rfl) rfl rfl
          · have k1 : ¬ q.at_ > p.at_ + p.new.length := by simpa using hb
            have u1 : IntKind.i64.wrap 1 = 1 := by decide
            refine ⟨⟨1, by omega, fun _ => k1, fun h => by omega⟩, [0, 1, 2, 3], Wk.of rfl (by simp) (by rw [h0]; simp [fixB]) (by simp [wkT, okA, wkP, cloE, Vam.look, sig, u1]) (by simp [wkBs, setBx, nthB, wkBx, wkL, okA, wkP, cloE, sig, u1]) (by simp) (by simp), by simp only; omega⟩
        · have k1 := n1 (Nat.le_refl _)
          refine IdxR.by hE 9000 (by decide) rfl rfl ?_
          simp only [evX, reduceIte, reduceCtorEq, Nat.reduceLT, Nat.reduceAdd, Nat.reduceEqDiff, Nat.reduceBEq, Nat.reduceLeDiff, Nat.reduceMul, ttL, tyL, ht]
          (refine CallG.ok hE 9000 (hP ▸ ok_way2 p q bQ h2) rfl rfl ?_ <;> simp only [evX, reduceIte, reduceCtorEq, Nat.reduceLT, Nat.reduceAdd, Nat.reduceEqDiff, Nat.reduceBEq, Nat.reduceLeDiff, Nat.reduceMul, ttL, tyL, ht])
          have w0 : IntKind.i64.wrap (q.at_ + 0) = q.at_ := by rw [IntKind.wrap_i64]; omega
          have w1 : IntKind.i64.wrap (p.at_ + byH q) = p.at_ + byH q := by rw [IntKind.wrap_i64, byH]; omega
          have p0 : decide (q.at_ ≤ 1048576) = true := by simpa using o2.2
          ((first | refine SelF.byN (fun hb => ?_) (fun hb => ?_) | refine SelF.by (fun hb => ?_) (fun hb => ?_)) <;> simp only [hb, evX, reduceIte, reduceCtorEq, Nat.reduceLT, Nat.reduceAdd, Nat.reduceEqDiff, Nat.reduceBEq, Nat.reduceLeDiff, Nat.reduceMul, ttL, tyL, ht])
          · have k3 : p.at_ > q.at_ + q.old.length := by simpa using hb
            simp only [w1, evX, reduceIte, reduceCtorEq, Nat.reduceLT, Nat.reduceAdd, Nat.reduceEqDiff, Nat.reduceBEq, Nat.reduceLeDiff, Nat.reduceMul, ttL, tyL, ht]
            ((first | refine SelF.byN (fun hb => ?_) (fun hb => ?_) | refine SelF.by (fun hb => ?_) (fun hb => ?_)) <;> simp only [hb, evX, reduceIte, reduceCtorEq, Nat.reduceLT, Nat.reduceAdd, Nat.reduceEqDiff, Nat.reduceBEq, Nat.reduceLeDiff, Nat.reduceMul, ttL, tyL, ht])
            · have k2 : p.at_ + byH q ≤ 1048576 := by simpa using hb
              simp only [w0, p0, evX, reduceIte, reduceCtorEq, Nat.reduceLT, Nat.reduceAdd, Nat.reduceEqDiff, Nat.reduceBEq, Nat.reduceLeDiff, Nat.reduceMul, ttL, tyL, ht]
              (refine CallG.ok hE 9000 (hP ▸ ok_swapOwn q 0 bQ (by omega)) rfl rfl ?_ <;> simp only [evX, reduceIte, reduceCtorEq, Nat.reduceLT, Nat.reduceAdd, Nat.reduceEqDiff, Nat.reduceBEq, Nat.reduceLeDiff, Nat.reduceMul, ttL, tyL, ht])
              (refine CallG.ok hE 9000 (hP ▸ ok_swapOwn p (byH q) bP (by unfold byH; omega)) rfl rfl ?_ <;> simp only [evX, reduceIte, reduceCtorEq, Nat.reduceLT, Nat.reduceAdd, Nat.reduceEqDiff, Nat.reduceBEq, Nat.reduceLeDiff, Nat.reduceMul, ttL, tyL, ht])
              (refine StG.byX hE ht 9000 rfl rfl ?_ <;> simp only [evX, reduceIte, reduceCtorEq, Nat.reduceLT, Nat.reduceAdd, Nat.reduceEqDiff, Nat.reduceBEq, Nat.reduceLeDiff, Nat.reduceMul, ttL, tyL, ht])
              (refine StG.byX hE ht 9000 rfl rfl ?_ <;> simp only [evX, reduceIte, reduceCtorEq, Nat.reduceLT, Nat.reduceAdd, Nat.reduceEqDiff, Nat.reduceBEq, Nat.reduceLeDiff, Nat.reduceMul, ttL, tyL, ht])
              refine ⟨by kernel_rfl, ?_⟩
              have e : passHT p q = (moved q 0, moved p (byH q), true) := by
                rw [passHT, passH, if_pos ⟨h1, h2⟩, if_neg k1, if_pos k3, if_pos k2, moved_zero]
              rw [e]
              exact RetQ.cct (.inr rfl) (cellV rfl rfl rfl rfl rfl rfl rfl rfl rfl) (cellV rfl rfl rfl rfl rfl rfl rfl rfl rfl) rfl rfl
            · have k2 : ¬ p.at_ + byH q ≤ 1048576 := by simpa using hb
              (refine StG.by hE ht 9000 rfl ?_ <;> simp only [evX, reduceIte, reduceCtorEq, Nat.reduceLT, Nat.reduceAdd, Nat.reduceEqDiff, Nat.reduceBEq, Nat.reduceLeDiff, Nat.reduceMul, ttL, tyL, ht])
              (refine StG.by hE ht 9000 rfl ?_ <;> simp only [evX, reduceIte, reduceCtorEq, Nat.reduceLT, Nat.reduceAdd, Nat.reduceEqDiff, Nat.reduceBEq, Nat.reduceLeDiff, Nat.reduceMul, ttL, tyL, ht])
              have e : passHT p q = (hunkZ, hunkZ, false) := by
                rw [passHT, passH, if_pos ⟨h1, h2⟩, if_neg k1, if_pos k3, if_neg k2]
              rw [e]
              exact RetQ.cct (.inr rfl) (cellV rfl rfl rfl rfl rfl rfl rfl rfl rfl) (cellV rfl rfl rfl rfl rfl rfl rfl rfl rfl) rfl rfl
          · have k3 : ¬ p.at_ > q.at_ + q.old.length := by simpa using hb
            have u1 : IntKind.i64.wrap 2 = 2 := by decide
            refine ⟨⟨2, by omega, fun _ => k1, fun _ => k3⟩, [0, 1, 2, 3], Wk.of rfl (by simp) (by rw [h0]; simp [fixB]) (by simp [wkT, okA, wkP, cloE, Vam.look, sig, u1]) (by simp [wkBs, setBx, nthB, wkBx, wkL, okA, wkP, cloE, sig, u1]) (by simp) (by simp), by simp only; omega⟩
      · have hi2 : i = 2 := by simp at hb; omega
        subst hi2
        have k1 := n1 (by omega)
        have k3 := n2 (by omega)
        (refine StG.by hE ht 9000 rfl ?_ <;> simp only [evX, reduceIte, reduceCtorEq, Nat.reduceLT, Nat.reduceAdd, Nat.reduceEqDiff, Nat.reduceBEq, Nat.reduceLeDiff, Nat.reduceMul, ttL, tyL, ht])
        (refine StG.by hE ht 9000 rfl ?_ <;> simp only [evX, reduceIte, reduceCtorEq, Nat.reduceLT, Nat.reduceAdd, Nat.reduceEqDiff, Nat.reduceBEq, Nat.reduceLeDiff, Nat.reduceMul, ttL, tyL, ht])
        have e : passHT p q = (hunkZ, hunkZ, false) := by
          rw [passHT, passH, if_pos ⟨h1, h2⟩, if_neg k1, if_neg k3]
        rw [e]
        exact RetQ.cct (.inr rfl) (cellV rfl rfl rfl rfl rfl rfl rfl rfl rfl) (cellV rfl rfl rfl rfl rfl rfl rfl rfl rfl) rfl rfl
end Go.Proofs.YtmfbcgheffdghaaGreat

/- Changes that pass one another: the program's way. -/
namespace Go.Proofs.YtmfbcgheffdghaaGreat
open Go.Vam Go.Qm
set_option linter.unusedVariables false
set_option linter.unusedSimpArgs false
set_option maxRecDepth 8000
set_option maxHeartbeats 2000000

theorem ok_names (p : Prim) : Ok Tryz.prog 98 [primA p] (.v (strsA (namesP p))) := by
  (refine Ok.code hT hM (fn := Tryz.f98) rfl rfl rfl _ _ rfl rfl (Nat.le_of_ble_eq_true rfl) fun E hE hP ht h0 hrd => ?_; refine Go.run hE 9000 ?_; simp only [Tryz.f98, evX, reduceIte, reduceCtorEq, Nat.reduceLT, Nat.reduceAdd, Nat.reduceEqDiff, Nat.reduceBEq, Nat.reduceLeDiff, Nat.reduceMul, ttL, tyL, ht])
  ((first | refine SelF.byN (fun hb => ?_) (fun hb => ?_) | refine SelF.by (fun hb => ?_) (fun hb => ?_)) <;> simp only [hb, evX, reduceIte, reduceCtorEq, Nat.reduceLT, Nat.reduceAdd, Nat.reduceEqDiff, Nat.reduceBEq, Nat.reduceLeDiff, Nat.reduceMul, ttL, tyL, ht])
  · refine RetQ.ownV (.inr rfl) rfl rfl rfl ?_
    rw [namesP, if_pos (by simpa using hb)]; rfl
  · refine RetQ.ownV (.inr rfl) rfl rfl rfl ?_
    rw [namesP, if_neg (by simpa using hb)]; rfl
theorem ok_IndexStr (l : List Str) (x : Str) (hl : l.length < 9223372036854775807) : Ok Tryz.prog 118 [strsA l, strA x] (.v (intA (idxI (fun y => decide (y = x)) l))) := by
  (refine Ok.code hT hM (fn := Tryz.f118) rfl rfl rfl _ _ rfl rfl (Nat.le_of_ble_eq_true rfl) fun E hE hP ht h0 hrd => ?_; refine Go.run hE 9000 ?_; simp only [Tryz.f118, evX, reduceIte, reduceCtorEq, Nat.reduceLT, Nat.reduceAdd, Nat.reduceEqDiff, Nat.reduceBEq, Nat.reduceLeDiff, Nat.reduceMul, ttL, tyL, ht])
  refine Loop.by hE (ι := {i : Nat // i ≤ l.length ∧ (l.take i).any (fun y => decide (y = x)) = false}) (fun i => ⟨19, [(0, strsA l), (1, strA x), (7, intA l.length), (8, intA i.1)], [], [], []⟩) (fun i => l.length - i.1) ⟨0, by simp⟩ 9000 ⟨[], Wk.of rfl (by simp) (by rw [h0]; simp [fixB]) (by simp [wkT, okA, wkP, cloE, Vam.look, sig, ]) (by simp [wkBs, setBx, nthB, wkBx, wkL, okA, wkP, cloE, sig, ]) (by simp) (by simp)⟩ (by simp [h0]) ?_
  rintro ⟨i, hi, hall⟩
  simp only [evX, reduceIte, reduceCtorEq, Nat.reduceLT, Nat.reduceAdd, Nat.reduceEqDiff, Nat.reduceBEq, Nat.reduceLeDiff, Nat.reduceMul, ttL, tyL, ht]
  ((first | refine SelF.byN (fun hb => ?_) (fun hb => ?_) | refine SelF.by (fun hb => ?_) (fun hb => ?_)) <;> simp only [hb, evX, reduceIte, reduceCtorEq, Nat.reduceLT, Nat.reduceAdd, Nat.reduceEqDiff, Nat.reduceBEq, Nat.reduceLeDiff, Nat.reduceMul, ttL, tyL, ht])
  · simp only [decide_eq_true_eq] at hb
    have hlt : i < l.length := by omega
    refine IdxR.nat hE 9000 hlt rfl ?_
    simp only [evX, reduceIte, reduceCtorEq, Nat.reduceLT, Nat.reduceAdd, Nat.reduceEqDiff, Nat.reduceBEq, Nat.reduceLeDiff, Nat.reduceMul, ttL, tyL, ht]
    have hc : (x == l[i]) = decide (l[i] = x) := by rw [str_beq, decide_eq_decide]; exact eq_comm
    simp only [hc, evX, reduceIte, reduceCtorEq, Nat.reduceLT, Nat.reduceAdd, Nat.reduceEqDiff, Nat.reduceBEq, Nat.reduceLeDiff, Nat.reduceMul, ttL, tyL, ht]
    ((first | refine SelF.byN (fun hb => ?_) (fun hb => ?_) | refine SelF.by (fun hb => ?_) (fun hb => ?_)) <;> simp only [hb, evX, reduceIte, reduceCtorEq, Nat.reduceLT, Nat.reduceAdd, Nat.reduceEqDiff, Nat.reduceBEq, Nat.reduceLeDiff, Nat.reduceMul, ttL, tyL, ht])
    · exact RetQ.c (.inr rfl) rfl (by rw [idxI_at hlt hall hb])
    · refine ⟨⟨i + 1, by omega, by rw [any_take hlt, hall, hb]; rfl⟩, [], Wk.of rfl (by simp) (by rw [h0]; simp [fixB]) (by simp [wkT, okA, wkP, cloE, Vam.look, sig, wrapN i (by omega)]) (by simp [wkBs, setBx, nthB, wkBx, wkL, okA, wkP, cloE, sig, wrapN i (by omega)]) (by simp) (by simp), by simp only; omega⟩
  · exact RetQ.c (.inr rfl) rfl (by rw [idxI_none hi (by simpa using hb) hall])
theorem ok_ContainsStr (l : List Str) (x : Str) (hl : l.length < 9223372036854775807) : Ok Tryz.prog 101 [strsA l, strA x] (.v (boolA (l.any fun y => decide (y = x)))) := by
  (refine Ok.code hT hM (fn := Tryz.f101) rfl rfl rfl _ _ rfl rfl (Nat.le_of_ble_eq_true rfl) fun E hE hP ht h0 hrd => ?_; refine Go.run hE 9000 ?_; simp only [Tryz.f101, evX, reduceIte, reduceCtorEq, Nat.reduceLT, Nat.reduceAdd, Nat.reduceEqDiff, Nat.reduceBEq, Nat.reduceLeDiff, Nat.reduceMul, ttL, tyL, ht])
  (refine CallG.ok hE 9000 (hP ▸ ok_IndexStr l x hl) rfl rfl ?_ <;> simp only [evX, reduceIte, reduceCtorEq, Nat.reduceLT, Nat.reduceAdd, Nat.reduceEqDiff, Nat.reduceBEq, Nat.reduceLeDiff, Nat.reduceMul, ttL, tyL, ht])
  exact RetQ.bool (.inr rfl) rfl (idxI_nn _ l)
theorem ok_apart1 (l : List Str) (x : Str) (hl : l.length < 9223372036854775807) : Ok Tryz.prog 100 [strA x, .pt [.sl (strsC l)]] (.v (boolA (l.any fun y => decide (y = x)))) := by
  (refine Ok.code hT hM (fn := Tryz.f100) rfl rfl rfl _ _ rfl rfl (Nat.le_of_ble_eq_true rfl) fun E hE hP ht h0 hrd => ?_; refine Go.run hE 9000 ?_; simp only [Tryz.f100, evX, reduceIte, reduceCtorEq, Nat.reduceLT, Nat.reduceAdd, Nat.reduceEqDiff, Nat.reduceBEq, Nat.reduceLeDiff, Nat.reduceMul, ttL, tyL, ht])
  (refine CallG.ok hE 9000 (hP ▸ ok_ContainsStr l x hl) rfl rfl ?_ <;> simp only [evX, reduceIte, reduceCtorEq, Nat.reduceLT, Nat.reduceAdd, Nat.reduceEqDiff, Nat.reduceBEq, Nat.reduceLeDiff, Nat.reduceMul, ttL, tyL, ht])
  exact RetQ.bool (.inr rfl) rfl rfl
theorem names_len (p : Prim) : (namesP p).length < 9223372036854775807 := by unfold namesP; split <;> simp
theorem ok_apart (p q : Prim) : Ok Tryz.prog 78 [primA p, primA q] (.v (boolA (apartP p q))) := by
  (refine Ok.code hT hM (fn := Tryz.f78) rfl rfl rfl _ _ rfl rfl (Nat.le_of_ble_eq_true rfl) fun E hE hP ht h0 hrd => ?_; refine Go.run hE 9000 ?_; simp only [Tryz.f78, evX, reduceIte, reduceCtorEq, Nat.reduceLT, Nat.reduceAdd, Nat.reduceEqDiff, Nat.reduceBEq, Nat.reduceLeDiff, Nat.reduceMul, ttL, tyL, ht])
  (refine CallG.ok hE 9000 (hP ▸ ok_names p) rfl rfl ?_ <;> simp only [evX, reduceIte, reduceCtorEq, Nat.reduceLT, Nat.reduceAdd, Nat.reduceEqDiff, Nat.reduceBEq, Nat.reduceLeDiff, Nat.reduceMul, ttL, tyL, ht])
  (refine StG.by hE ht 9000 rfl ?_ <;> simp only [evX, reduceIte, reduceCtorEq, Nat.reduceLT, Nat.reduceAdd, Nat.reduceEqDiff, Nat.reduceBEq, Nat.reduceLeDiff, Nat.reduceMul, ttL, tyL, ht])
  (refine CallG.ok hE 9000 (hP ▸ ok_names q) rfl rfl ?_ <;> simp only [evX, reduceIte, reduceCtorEq, Nat.reduceLT, Nat.reduceAdd, Nat.reduceEqDiff, Nat.reduceBEq, Nat.reduceLeDiff, Nat.reduceMul, ttL, tyL, ht])
  (refine CallG.ok hE 9000 (hP ▸ ok_ContainsFuncStr (namesP q) 100 [[.sl (strsC (namesP p))]] (fun s => (namesP p).any fun y => decide (y = s)) (names_len q) (fun s _ => ok_apart1 (namesP p) s (names_len p))) rfl rfl ?_ <;> simp only [evX, reduceIte, reduceCtorEq, Nat.reduceLT, Nat.reduceAdd, Nat.reduceEqDiff, Nat.reduceBEq, Nat.reduceLeDiff, Nat.reduceMul, ttL, tyL, ht])
  exact RetQ.bool (.inr rfl) rfl rfl
theorem ok_lines (p : Prim) : Ok Tryz.prog 80 [primA p] (.v (boolA (linesP p))) := by
  (refine Ok.code hT hM (fn := Tryz.f80) rfl rfl rfl _ _ rfl rfl (Nat.le_of_ble_eq_true rfl) fun E hE hP ht h0 hrd => ?_; refine Go.run hE 9000 ?_; simp only [Tryz.f80, evX, reduceIte, reduceCtorEq, Nat.reduceLT, Nat.reduceAdd, Nat.reduceEqDiff, Nat.reduceBEq, Nat.reduceLeDiff, Nat.reduceMul, ttL, tyL, ht])
  repeat' ((first | refine SelF.byN (fun hb => ?_) (fun hb => ?_) | refine SelF.by (fun hb => ?_) (fun hb => ?_)) <;> simp only [hb, evX, reduceIte, reduceCtorEq, Nat.reduceLT, Nat.reduceAdd, Nat.reduceEqDiff, Nat.reduceBEq, Nat.reduceLeDiff, Nat.reduceMul, ttL, tyL, ht])
  all_goals exact RetQ.bool (.inr rfl) rfl (by simp_all [linesP])
theorem ok_passOwn (p : Prim) (bP : primB p) : Ok Tryz.prog 77 [primA p] (.v (primA p)) := by
  (refine Ok.code hT hM (fn := Tryz.f77) rfl rfl rfl _ _ rfl rfl (Nat.le_of_ble_eq_true rfl) fun E hE hP ht h0 hrd => ?_; refine Go.run hE 9000 ?_; simp only [Tryz.f77, evX, reduceIte, reduceCtorEq, Nat.reduceLT, Nat.reduceAdd, Nat.reduceEqDiff, Nat.reduceBEq, Nat.reduceLeDiff, Nat.reduceMul, ttL, tyL, ht])
  (refine CallG.ok hE 9000 (hP ▸ ok_CloneStr p.h.old bP.1) rfl rfl ?_ <;> simp only [evX, reduceIte, reduceCtorEq, Nat.reduceLT, Nat.reduceAdd, Nat.reduceEqDiff, Nat.reduceBEq, Nat.reduceLeDiff, Nat.reduceMul, ttL, tyL, ht])
  (refine CallG.ok hE 9000 (hP ▸ ok_CloneStr p.h.new bP.2) rfl rfl ?_ <;> simp only [evX, reduceIte, reduceCtorEq, Nat.reduceLT, Nat.reduceAdd, Nat.reduceEqDiff, Nat.reduceBEq, Nat.reduceLeDiff, Nat.reduceMul, ttL, tyL, ht])
  (refine StG.byX hE ht 9000 rfl rfl ?_ <;> simp only [evX, reduceIte, reduceCtorEq, Nat.reduceLT, Nat.reduceAdd, Nat.reduceEqDiff, Nat.reduceBEq, Nat.reduceLeDiff, Nat.reduceMul, ttL, tyL, ht])
  (refine StG.byX hE ht 9000 rfl rfl ?_ <;> simp only [evX, reduceIte, reduceCtorEq, Nat.reduceLT, Nat.reduceAdd, Nat.reduceEqDiff, Nat.reduceBEq, Nat.reduceLeDiff, Nat.reduceMul, ttL, tyL, ht])
  refine ⟨by kernel_rfl, ?_⟩
  (refine StG.by hE ht 9000 rfl ?_ <;> simp only [evX, reduceIte, reduceCtorEq, Nat.reduceLT, Nat.reduceAdd, Nat.reduceEqDiff, Nat.reduceBEq, Nat.reduceLeDiff, Nat.reduceMul, ttL, tyL, ht])
  exact RetQ.cell (.inr rfl) rfl rfl rfl rfl rfl rfl rfl rfl rfl
def passPT (p q : Prim) : Prim × Prim × Bool := match passP p q with
  | some r => (r.1, r.2, true)
  | none => (primZ, primZ, false)
theorem ok_passPass (p q : Prim) (bP : primB p) (bQ : primB q) (rP : primR p) (rQ : primR q) : Ok Tryz.prog 64 [primA p, primA q] (.v (.tup [primA (passPT p q).1, primA (passPT p q).2.1, boolA (passPT p q).2.2])) := by
  cases h1 : mayP p with
  | false =>
    have e : passPT p q = (primZ, primZ, false) := by rw [passPT, passP, if_neg (by rw [h1]; simp)]
    (refine Ok.code hT hM (fn := Tryz.f64) rfl rfl rfl _ _ rfl rfl (Nat.le_of_ble_eq_true rfl) fun E hE hP ht h0 hrd => ?_; refine Go.run hE 9000 ?_; simp only [Tryz.f64, evX, reduceIte, reduceCtorEq, Nat.reduceLT, Nat.reduceAdd, Nat.reduceEqDiff, Nat.reduceBEq, Nat.reduceLeDiff, Nat.reduceMul, ttL, tyL, ht])
    refine Go.scope hE 9000 ?_
    simp only [evX, reduceIte, reduceCtorEq, Nat.reduceLT, Nat.reduceAdd, Nat.reduceEqDiff, Nat.reduceBEq, Nat.reduceLeDiff, Nat.reduceMul, ttL, tyL, ht]
    (refine CallG.ok hE 9000 (hP ▸ ok_primMay p bP rP) rfl rfl ?_ <;> simp only [evX, reduceIte, reduceCtorEq, Nat.reduceLT, Nat.reduceAdd, Nat.reduceEqDiff, Nat.reduceBEq, Nat.reduceLeDiff, Nat.reduceMul, ttL, tyL, ht])
    simp only [h1, evX, reduceIte, reduceCtorEq, Nat.reduceLT, Nat.reduceAdd, Nat.reduceEqDiff, Nat.reduceBEq, Nat.reduceLeDiff, Nat.reduceMul, ttL, tyL, ht, Bool.not_false]
    (refine StG.by hE ht 9000 rfl ?_ <;> simp only [evX, reduceIte, reduceCtorEq, Nat.reduceLT, Nat.reduceAdd, Nat.reduceEqDiff, Nat.reduceBEq, Nat.reduceLeDiff, Nat.reduceMul, ttL, tyL, ht])
    (refine StG.by hE ht 9000 rfl ?_ <;> simp only [evX, reduceIte, reduceCtorEq, Nat.reduceLT, Nat.reduceAdd, Nat.reduceEqDiff, Nat.reduceBEq, Nat.reduceLeDiff, Nat.reduceMul, ttL, tyL, ht])
    rw [e]
    exact RetQ.cct (.inr rfl) (cellV rfl rfl rfl rfl rfl rfl rfl rfl rfl) (cellV rfl rfl rfl rfl rfl rfl rfl rfl rfl) rfl rfl
  | true =>
    cases h2 : mayP q with
    | false =>
      have e : passPT p q = (primZ, primZ, false) := by rw [passPT, passP, if_neg (by rw [h2]; simp)]
      (refine Ok.code hT hM (fn := Tryz.f64) rfl rfl rfl _ _ rfl rfl (Nat.le_of_ble_eq_true rfl) fun E hE hP ht h0 hrd => ?_; refine Go.run hE 9000 ?_; simp only [Tryz.f64, evX, reduceIte, reduceCtorEq, Nat.reduceLT, Nat.reduceAdd, Nat.reduceEqDiff, Nat.reduceBEq, Nat.reduceLeDiff, Nat.reduceMul, ttL, tyL, ht])
      refine Go.scope hE 9000 ?_
      simp only [evX, reduceIte, reduceCtorEq, Nat.reduceLT, Nat.reduceAdd, Nat.reduceEqDiff, Nat.reduceBEq, Nat.reduceLeDiff, Nat.reduceMul, ttL, tyL, ht]
      (refine CallG.ok hE 9000 (hP ▸ ok_primMay p bP rP) rfl rfl ?_ <;> simp only [evX, reduceIte, reduceCtorEq, Nat.reduceLT, Nat.reduceAdd, Nat.reduceEqDiff, Nat.reduceBEq, Nat.reduceLeDiff, Nat.reduceMul, ttL, tyL, ht])
      simp only [h1, evX, reduceIte, reduceCtorEq, Nat.reduceLT, Nat.reduceAdd, Nat.reduceEqDiff, Nat.reduceBEq, Nat.reduceLeDiff, Nat.reduceMul, ttL, tyL, ht, Bool.not_true]
      (refine CallG.ok hE 9000 (hP ▸ ok_primMay q bQ rQ) rfl rfl ?_ <;> simp only [evX, reduceIte, reduceCtorEq, Nat.reduceLT, Nat.reduceAdd, Nat.reduceEqDiff, Nat.reduceBEq, Nat.reduceLeDiff, Nat.reduceMul, ttL, tyL, ht])
      simp only [h2, evX, reduceIte, reduceCtorEq, Nat.reduceLT, Nat.reduceAdd, Nat.reduceEqDiff, Nat.reduceBEq, Nat.reduceLeDiff, Nat.reduceMul, ttL, tyL, ht, Bool.not_false]
      (refine StG.by hE ht 9000 rfl ?_ <;> simp only [evX, reduceIte, reduceCtorEq, Nat.reduceLT, Nat.reduceAdd, Nat.reduceEqDiff, Nat.reduceBEq, Nat.reduceLeDiff, Nat.reduceMul, ttL, tyL, ht])
      (refine StG.by hE ht 9000 rfl ?_ <;> simp only [evX, reduceIte, reduceCtorEq, Nat.reduceLT, Nat.reduceAdd, Nat.reduceEqDiff, Nat.reduceBEq, Nat.reduceLeDiff, Nat.reduceMul, ttL, tyL, ht])
      rw [e]
      exact RetQ.cct (.inr rfl) (cellV rfl rfl rfl rfl rfl rfl rfl rfl rfl) (cellV rfl rfl rfl rfl rfl rfl rfl rfl rfl) rfl rfl
    | true =>
      (refine Ok.code hT hM (fn := Tryz.f64) rfl rfl rfl _ _ rfl rfl (Nat.le_of_ble_eq_true rfl) fun E hE hP ht h0 hrd => ?_; refine Go.run hE 9000 ?_; simp only [Tryz.f64, evX, reduceIte, reduceCtorEq, Nat.reduceLT, Nat.reduceAdd, Nat.reduceEqDiff, Nat.reduceBEq, Nat.reduceLeDiff, Nat.reduceMul, ttL, tyL, ht])
      refine Go.scope hE 9000 ?_
      simp only [evX, reduceIte, reduceCtorEq, Nat.reduceLT, Nat.reduceAdd, Nat.reduceEqDiff, Nat.reduceBEq, Nat.reduceLeDiff, Nat.reduceMul, ttL, tyL, ht]
      (refine CallG.ok hE 9000 (hP ▸ ok_primMay p bP rP) rfl rfl ?_ <;> simp only [evX, reduceIte, reduceCtorEq, Nat.reduceLT, Nat.reduceAdd, Nat.reduceEqDiff, Nat.reduceBEq, Nat.reduceLeDiff, Nat.reduceMul, ttL, tyL, ht])
      simp only [h1, evX, reduceIte, reduceCtorEq, Nat.reduceLT, Nat.reduceAdd, Nat.reduceEqDiff, Nat.reduceBEq, Nat.reduceLeDiff, Nat.reduceMul, ttL, tyL, ht, Bool.not_true]
      (refine CallG.ok hE 9000 (hP ▸ ok_primMay q bQ rQ) rfl rfl ?_ <;> simp only [evX, reduceIte, reduceCtorEq, Nat.reduceLT, Nat.reduceAdd, Nat.reduceEqDiff, Nat.reduceBEq, Nat.reduceLeDiff, Nat.reduceMul, ttL, tyL, ht])
      simp only [h2, evX, reduceIte, reduceCtorEq, Nat.reduceLT, Nat.reduceAdd, Nat.reduceEqDiff, Nat.reduceBEq, Nat.reduceLeDiff, Nat.reduceMul, ttL, tyL, ht, Bool.not_true]
      (refine CallG.ok hE 9000 (hP ▸ ok_passOwn p bP) rfl rfl ?_ <;> simp only [evX, reduceIte, reduceCtorEq, Nat.reduceLT, Nat.reduceAdd, Nat.reduceEqDiff, Nat.reduceBEq, Nat.reduceLeDiff, Nat.reduceMul, ttL, tyL, ht])
      (refine CallG.ok hE 9000 (hP ▸ ok_passOwn q bQ) rfl rfl ?_ <;> simp only [evX, reduceIte, reduceCtorEq, Nat.reduceLT, Nat.reduceAdd, Nat.reduceEqDiff, Nat.reduceBEq, Nat.reduceLeDiff, Nat.reduceMul, ttL, tyL, ht])
      (refine StG.byX hE ht 9000 rfl rfl ?_ <;> simp only [evX, reduceIte, reduceCtorEq, Nat.reduceLT, Nat.reduceAdd, Nat.reduceEqDiff, Nat.reduceBEq, Nat.reduceLeDiff, Nat.reduceMul, ttL, tyL, ht])
      (refine StG.byX hE ht 9000 rfl rfl ?_ <;> simp only [evX, reduceIte, reduceCtorEq, Nat.reduceLT, Nat.reduceAdd, Nat.reduceEqDiff, Nat.reduceBEq, Nat.reduceLeDiff, Nat.reduceMul, ttL, tyL, ht])
      refine ⟨by kernel_rfl, ?_⟩
      refine Go.label hE 9000 ?_
      simp only [evX, reduceIte, reduceCtorEq, Nat.reduceLT, Nat.reduceAdd, Nat.reduceEqDiff, Nat.reduceBEq, Nat.reduceLeDiff, Nat.reduceMul, ttL, tyL, ht]
      (refine CallG.ok hE 9000 (hP ▸ ok_apart p q) rfl rfl ?_ <;> simp only [evX, reduceIte, reduceCtorEq, Nat.reduceLT, Nat.reduceAdd, Nat.reduceEqDiff, Nat.reduceBEq, Nat.reduceLeDiff, Nat.reduceMul, ttL, tyL, ht])
      cases ha : apartP p q <;> simp only [evX, reduceIte, reduceCtorEq, Nat.reduceLT, Nat.reduceAdd, Nat.reduceEqDiff, Nat.reduceBEq, Nat.reduceLeDiff, Nat.reduceMul, ttL, tyL, ht]
      · have hbs : (q.name == p.to) = decide (q.name = p.to) := str_beq _ _
        have hbs2 : (p.name == q.name) = decide (p.name = q.name) := str_beq _ _
        have i0 : ¬ apartP p q = true := by rw [ha]; simp
        repeat' (first | (refine CallG.ok hE 9000 (hP ▸ ok_lines q) rfl rfl ?_ <;> simp only [evX, reduceIte, reduceCtorEq, Nat.reduceLT, Nat.reduceAdd, Nat.reduceEqDiff, Nat.reduceBEq, Nat.reduceLeDiff, Nat.reduceMul, ttL, tyL, ht]) | (refine CallG.ok hE 9000 (hP ▸ ok_lines p) rfl rfl ?_ <;> simp only [evX, reduceIte, reduceCtorEq, Nat.reduceLT, Nat.reduceAdd, Nat.reduceEqDiff, Nat.reduceBEq, Nat.reduceLeDiff, Nat.reduceMul, ttL, tyL, ht]) | ((first | refine SelF.byN (fun hb => ?_) (fun hb => ?_) | refine SelF.by (fun hb => ?_) (fun hb => ?_)) <;> simp only [hb, evX, reduceIte, reduceCtorEq, Nat.reduceLT, Nat.reduceAdd, Nat.reduceEqDiff, Nat.reduceBEq, Nat.reduceLeDiff, Nat.reduceMul, ttL, tyL, ht]))
        · have k3 : p.kind = 3 ∧ q.kind = 3 := by constructor <;> simp_all
          (refine CallG.ok hE 9000 (hP ▸ ok_swapPass p.h q.h bP bQ rP.h rQ.h) rfl rfl ?_ <;> simp only [evX, reduceIte, reduceCtorEq, Nat.reduceLT, Nat.reduceAdd, Nat.reduceEqDiff, Nat.reduceBEq, Nat.reduceLeDiff, Nat.reduceMul, ttL, tyL, ht])
          cases hs : passH p.h q.h with
          | none =>
            have e' : passHT p.h q.h = (hunkZ, hunkZ, false) := by rw [passHT, hs]
            have e : passPT p q = (primZ, primZ, false) := by rw [passPT, passP, if_pos ⟨h1, h2⟩, if_neg i0, if_pos k3, hs]; rfl
            simp only [e', evX, reduceIte, reduceCtorEq, Nat.reduceLT, Nat.reduceAdd, Nat.reduceEqDiff, Nat.reduceBEq, Nat.reduceLeDiff, Nat.reduceMul, ttL, tyL, ht]
            (refine StG.by hE ht 9000 rfl ?_ <;> simp only [evX, reduceIte, reduceCtorEq, Nat.reduceLT, Nat.reduceAdd, Nat.reduceEqDiff, Nat.reduceBEq, Nat.reduceLeDiff, Nat.reduceMul, ttL, tyL, ht])
            (refine StG.by hE ht 9000 rfl ?_ <;> simp only [evX, reduceIte, reduceCtorEq, Nat.reduceLT, Nat.reduceAdd, Nat.reduceEqDiff, Nat.reduceBEq, Nat.reduceLeDiff, Nat.reduceMul, ttL, tyL, ht])
            (refine StG.by hE ht 9000 rfl ?_ <;> simp only [evX, reduceIte, reduceCtorEq, Nat.reduceLT, Nat.reduceAdd, Nat.reduceEqDiff, Nat.reduceBEq, Nat.reduceLeDiff, Nat.reduceMul, ttL, tyL, ht])
            (refine StG.by hE ht 9000 rfl ?_ <;> simp only [evX, reduceIte, reduceCtorEq, Nat.reduceLT, Nat.reduceAdd, Nat.reduceEqDiff, Nat.reduceBEq, Nat.reduceLeDiff, Nat.reduceMul, ttL, tyL, ht])
            rw [e]
            exact RetQ.cct (.inr rfl) (cellV rfl rfl rfl rfl rfl rfl rfl rfl rfl) (cellV rfl rfl rfl rfl rfl rfl rfl rfl rfl) rfl rfl
          | some r =>
            have e' : passHT p.h q.h = (r.1, r.2, true) := by rw [passHT, hs]
            have e : passPT p q = (⟨q.kind, q.name, q.to, r.1⟩, ⟨p.kind, p.name, p.to, r.2⟩, true) := by rw [passPT, passP, if_pos ⟨h1, h2⟩, if_neg i0, if_pos k3, hs]; rfl
            simp only [e', evX, reduceIte, reduceCtorEq, Nat.reduceLT, Nat.reduceAdd, Nat.reduceEqDiff, Nat.reduceBEq, Nat.reduceLeDiff, Nat.reduceMul, ttL, tyL, ht]
            (refine StG.by hE ht 9000 rfl ?_ <;> simp only [evX, reduceIte, reduceCtorEq, Nat.reduceLT, Nat.reduceAdd, Nat.reduceEqDiff, Nat.reduceBEq, Nat.reduceLeDiff, Nat.reduceMul, ttL, tyL, ht])
            (refine StG.by hE ht 9000 rfl ?_ <;> simp only [evX, reduceIte, reduceCtorEq, Nat.reduceLT, Nat.reduceAdd, Nat.reduceEqDiff, Nat.reduceBEq, Nat.reduceLeDiff, Nat.reduceMul, ttL, tyL, ht])
            (refine StG.byX hE ht 9000 rfl rfl ?_ <;> simp only [evX, reduceIte, reduceCtorEq, Nat.reduceLT, Nat.reduceAdd, Nat.reduceEqDiff, Nat.reduceBEq, Nat.reduceLeDiff, Nat.reduceMul, ttL, tyL, ht])
            (refine StG.byX hE ht 9000 rfl rfl ?_ <;> simp only [evX, reduceIte, reduceCtorEq, Nat.reduceLT, Nat.reduceAdd, Nat.reduceEqDiff, Nat.reduceBEq, Nat.reduceLeDiff, Nat.reduceMul, ttL, tyL, ht])
            refine ⟨by kernel_rfl, ?_⟩
            rw [e]
            exact RetQ.cct (.inr rfl) (cellV rfl rfl rfl rfl rfl rfl rfl rfl rfl) (cellV rfl rfl rfl rfl rfl rfl rfl rfl rfl) rfl rfl
        all_goals try
          (have e : passPT p q = (primZ, primZ, false) := by
            rw [passPT, passP, if_pos ⟨h1, h2⟩, if_neg i0, if_neg (by simp_all), if_neg (by simp_all), if_neg (by simp_all)]
           (refine StG.by hE ht 9000 rfl ?_ <;> simp only [evX, reduceIte, reduceCtorEq, Nat.reduceLT, Nat.reduceAdd, Nat.reduceEqDiff, Nat.reduceBEq, Nat.reduceLeDiff, Nat.reduceMul, ttL, tyL, ht])
           (refine StG.by hE ht 9000 rfl ?_ <;> simp only [evX, reduceIte, reduceCtorEq, Nat.reduceLT, Nat.reduceAdd, Nat.reduceEqDiff, Nat.reduceBEq, Nat.reduceLeDiff, Nat.reduceMul, ttL, tyL, ht])
           rw [e]
           exact RetQ.cct (.inr rfl) (cellV rfl rfl rfl rfl rfl rfl rfl rfl rfl) (cellV rfl rfl rfl rfl rfl rfl rfl rfl rfl) rfl rfl)
        all_goals try
          (have e : passPT p q = (⟨q.kind, p.name, q.to, q.h⟩, p, true) := by
            rw [passPT, passP, if_pos ⟨h1, h2⟩, if_neg i0, if_neg (by simp_all), if_pos (by simp_all)]
           (refine StG.by hE ht 9000 rfl ?_ <;> simp only [evX, reduceIte, reduceCtorEq, Nat.reduceLT, Nat.reduceAdd, Nat.reduceEqDiff, Nat.reduceBEq, Nat.reduceLeDiff, Nat.reduceMul, ttL, tyL, ht])
           (refine StG.byX hE ht 9000 rfl rfl ?_ <;> simp only [evX, reduceIte, reduceCtorEq, Nat.reduceLT, Nat.reduceAdd, Nat.reduceEqDiff, Nat.reduceBEq, Nat.reduceLeDiff, Nat.reduceMul, ttL, tyL, ht])
           (refine StG.byX hE ht 9000 rfl rfl ?_ <;> simp only [evX, reduceIte, reduceCtorEq, Nat.reduceLT, Nat.reduceAdd, Nat.reduceEqDiff, Nat.reduceBEq, Nat.reduceLeDiff, Nat.reduceMul, ttL, tyL, ht])
           refine ⟨by kernel_rfl, ?_⟩
           rw [e]
           exact RetQ.cct (.inr rfl) (cellV rfl rfl rfl rfl rfl rfl rfl rfl rfl) (cellV rfl rfl rfl rfl rfl rfl rfl rfl rfl) rfl rfl)
        all_goals try
          (have e : passPT p q = (q, ⟨p.kind, q.to, p.to, p.h⟩, true) := by
            rw [passPT, passP, if_pos ⟨h1, h2⟩, if_neg i0, if_neg (by simp_all), if_neg (by simp_all), if_pos (by simp_all)]
           (refine StG.by hE ht 9000 rfl ?_ <;> simp only [evX, reduceIte, reduceCtorEq, Nat.reduceLT, Nat.reduceAdd, Nat.reduceEqDiff, Nat.reduceBEq, Nat.reduceLeDiff, Nat.reduceMul, ttL, tyL, ht])
           (refine StG.byX hE ht 9000 rfl rfl ?_ <;> simp only [evX, reduceIte, reduceCtorEq, Nat.reduceLT, Nat.reduceAdd, Nat.reduceEqDiff, Nat.reduceBEq, Nat.reduceLeDiff, Nat.reduceMul, ttL, tyL, ht])
           (refine StG.byX hE ht 9000 rfl rfl ?_ <;> simp only [evX, reduceIte, reduceCtorEq, Nat.reduceLT, Nat.reduceAdd, Nat.reduceEqDiff, Nat.reduceBEq, Nat.reduceLeDiff, Nat.reduceMul, ttL, tyL, ht])
           refine ⟨by kernel_rfl, ?_⟩
           rw [e]
           exact RetQ.cct (.inr rfl) (cellV rfl rfl rfl rfl rfl rfl rfl rfl rfl) (cellV rfl rfl rfl rfl rfl rfl rfl rfl rfl) rfl rfl)
        all_goals done
      · have e : passPT p q = (q, p, true) := by rw [passPT, passP, if_pos ⟨h1, h2⟩, if_pos ha]
        (refine StG.byX hE ht 9000 rfl rfl ?_ <;> simp only [evX, reduceIte, reduceCtorEq, Nat.reduceLT, Nat.reduceAdd, Nat.reduceEqDiff, Nat.reduceBEq, Nat.reduceLeDiff, Nat.reduceMul, ttL, tyL, ht])
        (refine StG.byX hE ht 9000 rfl rfl ?_ <;> simp only [evX, reduceIte, reduceCtorEq, Nat.reduceLT, Nat.reduceAdd, Nat.reduceEqDiff, Nat.reduceBEq, Nat.reduceLeDiff, Nat.reduceMul, ttL, tyL, ht])
        refine ⟨by kernel_rfl, ?_⟩
        rw [e]
        exact RetQ.cct (.inr rfl) (cellV rfl rfl rfl rfl rfl rfl rfl rfl rfl) (cellV rfl rfl rfl rfl rfl rfl rfl rfl rfl) rfl rfl
end Go.Proofs.YtmfbcgheffdghaaGreat

/- Hunks and changes that pass one another: the document's way. -/
namespace Go.Proofs.YtmfbcgheffdghaaGreat
open Go.Vam Go.Qm
set_option linter.unusedVariables false
set_option linter.unusedSimpArgs false
set_option maxRecDepth 8000
set_option maxHeartbeats 2000000

theorem ok_ref06Pass (p q : Hunk) (bP : hunkB p) (bQ : hunkB q) (rP : hunkR p) (rQ : hunkR q) : Ok Tryz.prog 95 [hunkA p, hunkA q] (.v (.tup [hunkA (passHT p q).1, hunkA (passHT p q).2.1, boolA (passHT p q).2.2])) := by
  by_cases hm : hunkOk p = true ∧ hunkOk q = true
  · obtain ⟨h1, h2⟩ := hm
    have o1 := hunkOk_at h1
    have o2 := hunkOk_at h2
    have l1 := hunkOk_len h1
    have l2 := hunkOk_len h2
    have w1 : IntKind.i64.wrap (p.at_ + (p.new.length : Int)) = p.at_ + p.new.length := by rw [IntKind.wrap_i64]; omega
    have w2 : IntKind.i64.wrap (q.at_ + (q.old.length : Int)) = q.at_ + q.old.length := by rw [IntKind.wrap_i64]; omega
    have w3 : IntKind.i64.wrap (q.at_ - (p.new.length : Int)) = q.at_ - p.new.length := by rw [IntKind.wrap_i64]; omega
    have w4 : IntKind.i64.wrap (q.at_ - (p.new.length : Int) + (p.old.length : Int)) = q.at_ + -byH p := by rw [IntKind.wrap_i64, byH]; omega
    have w5 : IntKind.i64.wrap (p.at_ - (q.old.length : Int)) = p.at_ - q.old.length := by rw [IntKind.wrap_i64]; omega
    have w6 : IntKind.i64.wrap (p.at_ - (q.old.length : Int) + (q.new.length : Int)) = p.at_ + byH q := by rw [IntKind.wrap_i64, byH]; omega
    have p0 : decide (p.at_ > 1048576) = false := by simp; omega
    have q0 : decide (q.at_ > 1048576) = false := by simp; omega
    (refine Ok.code hT hM (fn := Tryz.f95) rfl rfl rfl _ _ rfl rfl (Nat.le_of_ble_eq_true rfl) fun E hE hP ht h0 hrd => ?_; refine Go.run hE 9000 ?_; simp only [Tryz.f95, evX, reduceIte, reduceCtorEq, Nat.reduceLT, Nat.reduceAdd, Nat.reduceEqDiff, Nat.reduceBEq, Nat.reduceLeDiff, Nat.reduceMul, ttL, tyL, ht])
    (refine StG.by hE ht 9000 rfl ?_ <;> simp only [evX, reduceIte, reduceCtorEq, Nat.reduceLT, Nat.reduceAdd, Nat.reduceEqDiff, Nat.reduceBEq, Nat.reduceLeDiff, Nat.reduceMul, ttL, tyL, ht])
    (refine CallG.ok hE 9000 (hP ▸ ok_ref05May p bP rP) rfl rfl ?_ <;> simp only [evX, reduceIte, reduceCtorEq, Nat.reduceLT, Nat.reduceAdd, Nat.reduceEqDiff, Nat.reduceBEq, Nat.reduceLeDiff, Nat.reduceMul, ttL, tyL, ht])
    (refine CallG.ok hE 9000 (hP ▸ ok_ref05May q bQ rQ) rfl rfl ?_ <;> simp only [evX, reduceIte, reduceCtorEq, Nat.reduceLT, Nat.reduceAdd, Nat.reduceEqDiff, Nat.reduceBEq, Nat.reduceLeDiff, Nat.reduceMul, ttL, tyL, ht])
    simp only [h1, h2, evX, reduceIte, reduceCtorEq, Nat.reduceLT, Nat.reduceAdd, Nat.reduceEqDiff, Nat.reduceBEq, Nat.reduceLeDiff, Nat.reduceMul, ttL, tyL, ht, Bool.not_true, w1]
    ((first | refine SelF.byN (fun hb => ?_) (fun hb => ?_) | refine SelF.by (fun hb => ?_) (fun hb => ?_)) <;> simp only [hb, evX, reduceIte, reduceCtorEq, Nat.reduceLT, Nat.reduceAdd, Nat.reduceEqDiff, Nat.reduceBEq, Nat.reduceLeDiff, Nat.reduceMul, ttL, tyL, ht])
    · have k1 : q.at_ > p.at_ + p.new.length := by simpa using hb
      simp only [w3, w4, evX, reduceIte, reduceCtorEq, Nat.reduceLT, Nat.reduceAdd, Nat.reduceEqDiff, Nat.reduceBEq, Nat.reduceLeDiff, Nat.reduceMul, ttL, tyL, ht]
      (refine StG.by hE ht 9000 rfl ?_ <;> simp only [evX, reduceIte, reduceCtorEq, Nat.reduceLT, Nat.reduceAdd, Nat.reduceEqDiff, Nat.reduceBEq, Nat.reduceLeDiff, Nat.reduceMul, ttL, tyL, ht])
      simp only [p0, evX, reduceIte, reduceCtorEq, Nat.reduceLT, Nat.reduceAdd, Nat.reduceEqDiff, Nat.reduceBEq, Nat.reduceLeDiff, Nat.reduceMul, ttL, tyL, ht]
      ((first | refine SelF.byN (fun hb => ?_) (fun hb => ?_) | refine SelF.by (fun hb => ?_) (fun hb => ?_)) <;> simp only [hb, evX, reduceIte, reduceCtorEq, Nat.reduceLT, Nat.reduceAdd, Nat.reduceEqDiff, Nat.reduceBEq, Nat.reduceLeDiff, Nat.reduceMul, ttL, tyL, ht])
      · have k2 : ¬ q.at_ - byH p ≤ 1048576 := by have := of_decide_eq_true hb; omega
        (refine StG.byX hE ht 9000 rfl rfl ?_ <;> simp only [evX, reduceIte, reduceCtorEq, Nat.reduceLT, Nat.reduceAdd, Nat.reduceEqDiff, Nat.reduceBEq, Nat.reduceLeDiff, Nat.reduceMul, ttL, tyL, ht])
        (refine StG.byX hE ht 9000 rfl rfl ?_ <;> simp only [evX, reduceIte, reduceCtorEq, Nat.reduceLT, Nat.reduceAdd, Nat.reduceEqDiff, Nat.reduceBEq, Nat.reduceLeDiff, Nat.reduceMul, ttL, tyL, ht])
        refine ⟨by kernel_rfl, ?_⟩
        have e : passHT p q = (hunkZ, hunkZ, false) := by rw [passHT, passH, if_pos ⟨h1, h2⟩, if_pos k1, if_neg k2]
        rw [e]
        exact RetQ.cct (.inr rfl) (cellV rfl rfl rfl rfl rfl rfl rfl rfl rfl) (cellV rfl rfl rfl rfl rfl rfl rfl rfl rfl) rfl rfl
      · have k2 : q.at_ - byH p ≤ 1048576 := by have := of_decide_eq_false hb; omega
        (refine StG.byX hE ht 9000 rfl rfl ?_ <;> simp only [evX, reduceIte, reduceCtorEq, Nat.reduceLT, Nat.reduceAdd, Nat.reduceEqDiff, Nat.reduceBEq, Nat.reduceLeDiff, Nat.reduceMul, ttL, tyL, ht])
        (refine StG.byX hE ht 9000 rfl rfl ?_ <;> simp only [evX, reduceIte, reduceCtorEq, Nat.reduceLT, Nat.reduceAdd, Nat.reduceEqDiff, Nat.reduceBEq, Nat.reduceLeDiff, Nat.reduceMul, ttL, tyL, ht])
        refine ⟨by kernel_rfl, ?_⟩
        have e : passHT p q = (moved q (-byH p), p, true) := by rw [passHT, passH, if_pos ⟨h1, h2⟩, if_pos k1, if_pos k2]
        rw [e]
        exact RetQ.cct (.inr rfl) (cellV rfl rfl rfl rfl rfl rfl rfl rfl rfl) (cellV rfl rfl rfl rfl rfl rfl rfl rfl rfl) rfl rfl
    · have k1 : ¬ q.at_ > p.at_ + p.new.length := by simpa using hb
      simp only [w2, evX, reduceIte, reduceCtorEq, Nat.reduceLT, Nat.reduceAdd, Nat.reduceEqDiff, Nat.reduceBEq, Nat.reduceLeDiff, Nat.reduceMul, ttL, tyL, ht]
      ((first | refine SelF.byN (fun hb => ?_) (fun hb => ?_) | refine SelF.by (fun hb => ?_) (fun hb => ?_)) <;> simp only [hb, evX, reduceIte, reduceCtorEq, Nat.reduceLT, Nat.reduceAdd, Nat.reduceEqDiff, Nat.reduceBEq, Nat.reduceLeDiff, Nat.reduceMul, ttL, tyL, ht])
      · have k3 : p.at_ > q.at_ + q.old.length := by simpa using hb
        simp only [w5, w6, evX, reduceIte, reduceCtorEq, Nat.reduceLT, Nat.reduceAdd, Nat.reduceEqDiff, Nat.reduceBEq, Nat.reduceLeDiff, Nat.reduceMul, ttL, tyL, ht]
        (refine StG.by hE ht 9000 rfl ?_ <;> simp only [evX, reduceIte, reduceCtorEq, Nat.reduceLT, Nat.reduceAdd, Nat.reduceEqDiff, Nat.reduceBEq, Nat.reduceLeDiff, Nat.reduceMul, ttL, tyL, ht])
        ((first | refine SelF.byN (fun hb => ?_) (fun hb => ?_) | refine SelF.by (fun hb => ?_) (fun hb => ?_)) <;> simp only [hb, evX, reduceIte, reduceCtorEq, Nat.reduceLT, Nat.reduceAdd, Nat.reduceEqDiff, Nat.reduceBEq, Nat.reduceLeDiff, Nat.reduceMul, ttL, tyL, ht])
        · have k2 : p.at_ + byH q ≤ 1048576 := by have := of_decide_eq_false hb; omega
          simp only [q0, evX, reduceIte, reduceCtorEq, Nat.reduceLT, Nat.reduceAdd, Nat.reduceEqDiff, Nat.reduceBEq, Nat.reduceLeDiff, Nat.reduceMul, ttL, tyL, ht]
          (refine StG.byX hE ht 9000 rfl rfl ?_ <;> simp only [evX, reduceIte, reduceCtorEq, Nat.reduceLT, Nat.reduceAdd, Nat.reduceEqDiff, Nat.reduceBEq, Nat.reduceLeDiff, Nat.reduceMul, ttL, tyL, ht])
          (refine StG.byX hE ht 9000 rfl rfl ?_ <;> simp only [evX, reduceIte, reduceCtorEq, Nat.reduceLT, Nat.reduceAdd, Nat.reduceEqDiff, Nat.reduceBEq, Nat.reduceLeDiff, Nat.reduceMul, ttL, tyL, ht])
          refine ⟨by kernel_rfl, ?_⟩
          have e : passHT p q = (q, moved p (byH q), true) := by rw [passHT, passH, if_pos ⟨h1, h2⟩, if_neg k1, if_pos k3, if_pos k2]
          rw [e]
          exact RetQ.cct (.inr rfl) (cellV rfl rfl rfl rfl rfl rfl rfl rfl rfl) (cellV rfl rfl rfl rfl rfl rfl rfl rfl rfl) rfl rfl
        · have k2 : ¬ p.at_ + byH q ≤ 1048576 := by have := of_decide_eq_true hb; omega
          (refine StG.byX hE ht 9000 rfl rfl ?_ <;> simp only [evX, reduceIte, reduceCtorEq, Nat.reduceLT, Nat.reduceAdd, Nat.reduceEqDiff, Nat.reduceBEq, Nat.reduceLeDiff, Nat.reduceMul, ttL, tyL, ht])
          (refine StG.byX hE ht 9000 rfl rfl ?_ <;> simp only [evX, reduceIte, reduceCtorEq, Nat.reduceLT, Nat.reduceAdd, Nat.reduceEqDiff, Nat.reduceBEq, Nat.reduceLeDiff, Nat.reduceMul, ttL, tyL, ht])
          refine ⟨by kernel_rfl, ?_⟩
          have e : passHT p q = (hunkZ, hunkZ, false) := by rw [passHT, passH, if_pos ⟨h1, h2⟩, if_neg k1, if_pos k3, if_neg k2]
          rw [e]
          exact RetQ.cct (.inr rfl) (cellV rfl rfl rfl rfl rfl rfl rfl rfl rfl) (cellV rfl rfl rfl rfl rfl rfl rfl rfl rfl) rfl rfl
      · have k3 : ¬ p.at_ > q.at_ + q.old.length := by simpa using hb
        (refine StG.byX hE ht 9000 rfl rfl ?_ <;> simp only [evX, reduceIte, reduceCtorEq, Nat.reduceLT, Nat.reduceAdd, Nat.reduceEqDiff, Nat.reduceBEq, Nat.reduceLeDiff, Nat.reduceMul, ttL, tyL, ht])
        (refine StG.byX hE ht 9000 rfl rfl ?_ <;> simp only [evX, reduceIte, reduceCtorEq, Nat.reduceLT, Nat.reduceAdd, Nat.reduceEqDiff, Nat.reduceBEq, Nat.reduceLeDiff, Nat.reduceMul, ttL, tyL, ht])
        refine ⟨by kernel_rfl, ?_⟩
        have e : passHT p q = (hunkZ, hunkZ, false) := by rw [passHT, passH, if_pos ⟨h1, h2⟩, if_neg k1, if_neg k3]
        rw [e]
        exact RetQ.cct (.inr rfl) (cellV rfl rfl rfl rfl rfl rfl rfl rfl rfl) (cellV rfl rfl rfl rfl rfl rfl rfl rfl rfl) rfl rfl
  · (refine Ok.code hT hM (fn := Tryz.f95) rfl rfl rfl _ _ rfl rfl (Nat.le_of_ble_eq_true rfl) fun E hE hP ht h0 hrd => ?_; refine Go.run hE 9000 ?_; simp only [Tryz.f95, evX, reduceIte, reduceCtorEq, Nat.reduceLT, Nat.reduceAdd, Nat.reduceEqDiff, Nat.reduceBEq, Nat.reduceLeDiff, Nat.reduceMul, ttL, tyL, ht])
    (refine StG.by hE ht 9000 rfl ?_ <;> simp only [evX, reduceIte, reduceCtorEq, Nat.reduceLT, Nat.reduceAdd, Nat.reduceEqDiff, Nat.reduceBEq, Nat.reduceLeDiff, Nat.reduceMul, ttL, tyL, ht])
    (refine CallG.ok hE 9000 (hP ▸ ok_ref05May p bP rP) rfl rfl ?_ <;> simp only [evX, reduceIte, reduceCtorEq, Nat.reduceLT, Nat.reduceAdd, Nat.reduceEqDiff, Nat.reduceBEq, Nat.reduceLeDiff, Nat.reduceMul, ttL, tyL, ht])
    (refine CallG.ok hE 9000 (hP ▸ ok_ref05May q bQ rQ) rfl rfl ?_ <;> simp only [evX, reduceIte, reduceCtorEq, Nat.reduceLT, Nat.reduceAdd, Nat.reduceEqDiff, Nat.reduceBEq, Nat.reduceLeDiff, Nat.reduceMul, ttL, tyL, ht])
    have e : passHT p q = (hunkZ, hunkZ, false) := by rw [passHT, passH, if_neg hm]
    cases h1 : hunkOk p <;> cases h2 : hunkOk q <;> simp only [h1, h2, evX, reduceIte, reduceCtorEq, Nat.reduceLT, Nat.reduceAdd, Nat.reduceEqDiff, Nat.reduceBEq, Nat.reduceLeDiff, Nat.reduceMul, ttL, tyL, ht, Bool.not_true, Bool.not_false]
    case true.true => exact absurd ⟨h1, h2⟩ hm
    all_goals
      (refine StG.byX hE ht 9000 rfl rfl ?_ <;> simp only [evX, reduceIte, reduceCtorEq, Nat.reduceLT, Nat.reduceAdd, Nat.reduceEqDiff, Nat.reduceBEq, Nat.reduceLeDiff, Nat.reduceMul, ttL, tyL, ht])
      (refine StG.byX hE ht 9000 rfl rfl ?_ <;> simp only [evX, reduceIte, reduceCtorEq, Nat.reduceLT, Nat.reduceAdd, Nat.reduceEqDiff, Nat.reduceBEq, Nat.reduceLeDiff, Nat.reduceMul, ttL, tyL, ht])
      refine ⟨by kernel_rfl, ?_⟩
      rw [e]
      exact RetQ.cct (.inr rfl) (cellV rfl rfl rfl rfl rfl rfl rfl rfl rfl) (cellV rfl rfl rfl rfl rfl rfl rfl rfl rfl) rfl rfl
theorem ok_rnames (p : Prim) (n : Str) : Ok Tryz.prog 116 [primA p, strA n] (.v (boolA ((namesP p).any fun y => decide (y = n)))) := by
  have e1 : (p.name == n) = decide (p.name = n) := str_beq _ _
  have e2 : (p.to == n) = decide (p.to = n) := str_beq _ _
  (refine Ok.code hT hM (fn := Tryz.f116) rfl rfl rfl _ _ rfl rfl (Nat.le_of_ble_eq_true rfl) fun E hE hP ht h0 hrd => ?_; refine Go.run hE 9000 ?_; simp only [Tryz.f116, evX, reduceIte, reduceCtorEq, Nat.reduceLT, Nat.reduceAdd, Nat.reduceEqDiff, Nat.reduceBEq, Nat.reduceLeDiff, Nat.reduceMul, ttL, tyL, ht])
  by_cases k : p.kind = 2
  · have k2 : (p.kind == 2) = true := by simpa using k
    simp only [e1, e2, k2, evX, reduceIte, reduceCtorEq, Nat.reduceLT, Nat.reduceAdd, Nat.reduceEqDiff, Nat.reduceBEq, Nat.reduceLeDiff, Nat.reduceMul, ttL, tyL, ht]
    repeat' ((first | refine SelF.byN (fun hb => ?_) (fun hb => ?_) | refine SelF.by (fun hb => ?_) (fun hb => ?_)) <;> simp only [hb, evX, reduceIte, reduceCtorEq, Nat.reduceLT, Nat.reduceAdd, Nat.reduceEqDiff, Nat.reduceBEq, Nat.reduceLeDiff, Nat.reduceMul, ttL, tyL, ht])
    all_goals exact RetQ.bool (.inr rfl) rfl (by rw [namesP, if_pos k]; simp_all)
  · have k2 : (p.kind == 2) = false := by simpa using k
    simp only [e1, e2, k2, evX, reduceIte, reduceCtorEq, Nat.reduceLT, Nat.reduceAdd, Nat.reduceEqDiff, Nat.reduceBEq, Nat.reduceLeDiff, Nat.reduceMul, ttL, tyL, ht]
    repeat' ((first | refine SelF.byN (fun hb => ?_) (fun hb => ?_) | refine SelF.by (fun hb => ?_) (fun hb => ?_)) <;> simp only [hb, evX, reduceIte, reduceCtorEq, Nat.reduceLT, Nat.reduceAdd, Nat.reduceEqDiff, Nat.reduceBEq, Nat.reduceLeDiff, Nat.reduceMul, ttL, tyL, ht])
    all_goals exact RetQ.bool (.inr rfl) rfl (by rw [namesP, if_neg k]; simp_all)
theorem ok_rapart (p q : Prim) : Ok Tryz.prog 94 [primA p, primA q] (.v (boolA (apartP p q))) := by
  (refine Ok.code hT hM (fn := Tryz.f94) rfl rfl rfl _ _ rfl rfl (Nat.le_of_ble_eq_true rfl) fun E hE hP ht h0 hrd => ?_; refine Go.run hE 9000 ?_; simp only [Tryz.f94, evX, reduceIte, reduceCtorEq, Nat.reduceLT, Nat.reduceAdd, Nat.reduceEqDiff, Nat.reduceBEq, Nat.reduceLeDiff, Nat.reduceMul, ttL, tyL, ht])
  (refine CallG.ok hE 9000 (hP ▸ ok_rnames p q.name) rfl rfl ?_ <;> simp only [evX, reduceIte, reduceCtorEq, Nat.reduceLT, Nat.reduceAdd, Nat.reduceEqDiff, Nat.reduceBEq, Nat.reduceLeDiff, Nat.reduceMul, ttL, tyL, ht])
  (refine CallG.ok hE 9000 (hP ▸ ok_rnames p q.to) rfl rfl ?_ <;> simp only [evX, reduceIte, reduceCtorEq, Nat.reduceLT, Nat.reduceAdd, Nat.reduceEqDiff, Nat.reduceBEq, Nat.reduceLeDiff, Nat.reduceMul, ttL, tyL, ht])
  repeat' ((first | refine SelF.byN (fun hb => ?_) (fun hb => ?_) | refine SelF.by (fun hb => ?_) (fun hb => ?_)) <;> simp only [hb, evX, reduceIte, reduceCtorEq, Nat.reduceLT, Nat.reduceAdd, Nat.reduceEqDiff, Nat.reduceBEq, Nat.reduceLeDiff, Nat.reduceMul, ttL, tyL, ht])
  all_goals exact RetQ.bool (.inr rfl) rfl (by unfold apartP; rw [namesP.eq_1 q]; split <;> simp_all <;> (intro h; exact absurd rfl (h _ ‹_›)))
theorem ok_rlines (p : Prim) : Ok Tryz.prog 96 [primA p] (.v (boolA (linesP p))) := by
  (refine Ok.code hT hM (fn := Tryz.f96) rfl rfl rfl _ _ rfl rfl (Nat.le_of_ble_eq_true rfl) fun E hE hP ht h0 hrd => ?_; refine Go.run hE 9000 ?_; simp only [Tryz.f96, evX, reduceIte, reduceCtorEq, Nat.reduceLT, Nat.reduceAdd, Nat.reduceEqDiff, Nat.reduceBEq, Nat.reduceLeDiff, Nat.reduceMul, ttL, tyL, ht])
  repeat' ((first | refine SelF.byN (fun hb => ?_) (fun hb => ?_) | refine SelF.by (fun hb => ?_) (fun hb => ?_)) <;> simp only [hb, evX, reduceIte, reduceCtorEq, Nat.reduceLT, Nat.reduceAdd, Nat.reduceEqDiff, Nat.reduceBEq, Nat.reduceLeDiff, Nat.reduceMul, ttL, tyL, ht])
  all_goals exact RetQ.bool (.inr rfl) rfl (by simp_all [linesP])
end Go.Proofs.YtmfbcgheffdghaaGreat
