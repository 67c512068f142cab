/- Hunks and changes that pass one another. -/
import Derived.Test.YtfjlopdofjbfgaaGreatTc2
import Derived.Test.YtfjlopdofjbfgaaGreatG10
namespace Go.Proofs.YtfjlopdofjbfgaaGreat
open Go.Vam Go.Qm
set_option linter.unusedVariables false
set_option linter.unusedSimpArgs false
set_option maxRecDepth 8000

theorem ok_by (h : Hunk) (hB : hunkB h) : Ok Tryz.prog 106 [hunkA h] (.v (intA (byH h))) := by
  have h1 := hB.1
  have h2 := hB.2
  have hw : IntKind.i64.wrap ((h.new.length : Int) - (h.old.length : Int)) = byH h := by rw [IntKind.wrap_i64, byH]; omega
  (refine Ok.code hT hM (fn := Tryz.f106) rfl rfl rfl _ _ rfl rfl (Nat.le_of_ble_eq_true rfl) fun E hE hP ht h0 hrd => ?_; refine Go.run hE 9000 ?_; simp only [Tryz.f106, evX, reduceIte, reduceCtorEq, Nat.reduceLT, Nat.reduceAdd, Nat.reduceEqDiff, Nat.reduceBEq, Nat.reduceLeDiff, Nat.reduceMul, ttL, tyL, ht])
  exact RetQ.c (.inr rfl) rfl (by rw [hw])
theorem ok_way1 (p q : Hunk) (hB : hunkB p) (ho : hunkOk p = true) : Ok Tryz.prog 105 [.pt (hunkC q), .pt (hunkC p)] (.v (.tup [boolA (decide (q.at_ > p.at_ + p.new.length)), intA 0, intA (-byH p)])) := by
  have h1 := hB.1
  have h2 := hB.2
  have h3 := hunkOk_at ho
  have hw : IntKind.i64.wrap (p.at_ + (p.new.length : Int)) = p.at_ + p.new.length := by rw [IntKind.wrap_i64]; omega
  have hw2 : IntKind.i64.wrap (-byH p) = -byH p := by rw [IntKind.wrap_i64, byH]; omega
  (refine Ok.code hT hM (fn := Tryz.f105) rfl rfl rfl _ _ rfl rfl (Nat.le_of_ble_eq_true rfl) fun E hE hP ht h0 hrd => ?_; refine Go.run hE 9000 ?_; simp only [Tryz.f105, evX, reduceIte, reduceCtorEq, Nat.reduceLT, Nat.reduceAdd, Nat.reduceEqDiff, Nat.reduceBEq, Nat.reduceLeDiff, Nat.reduceMul, ttL, tyL, ht])
  (refine CallG.ok hE 9000 (hP ▸ ok_by p hB) rfl rfl ?_ <;> simp only [evX, reduceIte, reduceCtorEq, Nat.reduceLT, Nat.reduceAdd, Nat.reduceEqDiff, Nat.reduceBEq, Nat.reduceLeDiff, Nat.reduceMul, ttL, tyL, ht])
  refine ⟨by kernel_rfl, ?_⟩
  refine RetQ.three (.inr rfl) rfl rfl rfl rfl ?_
  rw [hw, hw2]; rfl
theorem ok_way2 (p q : Hunk) (hB : hunkB q) (ho : hunkOk q = true) : Ok Tryz.prog 107 [.pt (hunkC p), .pt (hunkC q)] (.v (.tup [boolA (decide (p.at_ > q.at_ + q.old.length)), intA (byH q), intA 0])) := by
  have h1 := hB.1
  have h2 := hB.2
  have h3 := hunkOk_at ho
  have hw : IntKind.i64.wrap (q.at_ + (q.old.length : Int)) = q.at_ + q.old.length := by rw [IntKind.wrap_i64]; omega
  (refine Ok.code hT hM (fn := Tryz.f107) rfl rfl rfl _ _ rfl rfl (Nat.le_of_ble_eq_true rfl) fun E hE hP ht h0 hrd => ?_; refine Go.run hE 9000 ?_; simp only [Tryz.f107, evX, reduceIte, reduceCtorEq, Nat.reduceLT, Nat.reduceAdd, Nat.reduceEqDiff, Nat.reduceBEq, Nat.reduceLeDiff, Nat.reduceMul, ttL, tyL, ht])
  (refine CallG.ok hE 9000 (hP ▸ ok_by q hB) rfl rfl ?_ <;> simp only [evX, reduceIte, reduceCtorEq, Nat.reduceLT, Nat.reduceAdd, Nat.reduceEqDiff, Nat.reduceBEq, Nat.reduceLeDiff, Nat.reduceMul, ttL, tyL, ht])
  refine ⟨by kernel_rfl, ?_⟩
  refine RetQ.three (.inr rfl) rfl rfl rfl rfl ?_
  rw [hw]; rfl
theorem ok_ways (p q : Hunk) : Ok Tryz.prog 90 [hunkA p, hunkA q] (.v (.c (.sl [[.fn 105 [hunkC q, hunkC p]], [.fn 107 [hunkC p, hunkC q]]]))) := by
  (refine Ok.code hT hM (fn := Tryz.f90) rfl rfl rfl _ _ rfl rfl (Nat.le_of_ble_eq_true rfl) fun E hE hP ht h0 hrd => ?_; refine Go.run hE 9000 ?_; simp only [Tryz.f90, evX, reduceIte, reduceCtorEq, Nat.reduceLT, Nat.reduceAdd, Nat.reduceEqDiff, Nat.reduceBEq, Nat.reduceLeDiff, Nat.reduceMul, ttL, tyL, ht])
  exact RetQ.ownV (.inr rfl) rfl rfl rfl rfl
theorem ok_swapOwn (h : Hunk) (d : Int) (hB : hunkB h) (hd : -9223372036854775808 ≤ h.at_ + d ∧ h.at_ + d ≤ 9223372036854775807) : Ok Tryz.prog 91 [hunkA h, intA d] (.v (hunkA (moved h d))) := by
  have hw : IntKind.i64.wrap (h.at_ + d) = h.at_ + d := by rw [IntKind.wrap_i64]; omega
  (refine Ok.code hT hM (fn := Tryz.f91) rfl rfl rfl _ _ rfl rfl (Nat.le_of_ble_eq_true rfl) fun E hE hP ht h0 hrd => ?_; refine Go.run hE 9000 ?_; simp only [Tryz.f91, evX, reduceIte, reduceCtorEq, Nat.reduceLT, Nat.reduceAdd, Nat.reduceEqDiff, Nat.reduceBEq, Nat.reduceLeDiff, Nat.reduceMul, ttL, tyL, ht])
  (refine CallG.ok hE 9000 (hP ▸ ok_CloneStr h.old hB.1) rfl rfl ?_ <;> simp only [evX, reduceIte, reduceCtorEq, Nat.reduceLT, Nat.reduceAdd, Nat.reduceEqDiff, Nat.reduceBEq, Nat.reduceLeDiff, Nat.reduceMul, ttL, tyL, ht])
  (refine CallG.ok hE 9000 (hP ▸ ok_CloneStr h.new hB.2) rfl rfl ?_ <;> simp only [evX, reduceIte, reduceCtorEq, Nat.reduceLT, Nat.reduceAdd, Nat.reduceEqDiff, Nat.reduceBEq, Nat.reduceLeDiff, Nat.reduceMul, ttL, tyL, ht])
  (refine StG.byD hE ht 9000 rfl (by kernel_rfl) ?_ <;> simp only [evX, reduceIte, reduceCtorEq, Nat.reduceLT, Nat.reduceAdd, Nat.reduceEqDiff, Nat.reduceBEq, Nat.reduceLeDiff, Nat.reduceMul, ttL, tyL, ht])
  exact RetQ.cell (.inr rfl) rfl rfl rfl rfl rfl rfl rfl rfl (by simp only [hw]; rfl)
def passHT (p q : Hunk) : Hunk × Hunk × Bool := match passH p q with
  | some r => (r.1, r.2, true)
  | none => (hunkZ, hunkZ, false)
theorem ok_swapPass (p q : Hunk) (bP : hunkB p) (bQ : hunkB q) (rP : hunkR p) (rQ : hunkR q) : Ok Tryz.prog 71 [hunkA p, hunkA q] (.v (.tup [hunkA (passHT p q).1, hunkA (passHT p q).2.1, boolA (passHT p q).2.2])) := by
  cases h1 : hunkOk p with
  | false =>
    have e : passHT p q = (hunkZ, hunkZ, false) := by rw [passHT, passH, if_neg (by rw [h1]; simp)]
    (refine Ok.code hT hM (fn := Tryz.f71) rfl rfl rfl _ _ rfl rfl (Nat.le_of_ble_eq_true rfl) fun E hE hP ht h0 hrd => ?_; refine Go.run hE 9000 ?_; simp only [Tryz.f71, evX, reduceIte, reduceCtorEq, Nat.reduceLT, Nat.reduceAdd, Nat.reduceEqDiff, Nat.reduceBEq, Nat.reduceLeDiff, Nat.reduceMul, ttL, tyL, ht])
    (refine CallG.ok hE 9000 (hP ▸ ok_hunkMay p) rfl rfl ?_ <;> simp only [evX, reduceIte, reduceCtorEq, Nat.reduceLT, Nat.reduceAdd, Nat.reduceEqDiff, Nat.reduceBEq, Nat.reduceLeDiff, Nat.reduceMul, ttL, tyL, ht])
    simp only [h1, evX, reduceIte, reduceCtorEq, Nat.reduceLT, Nat.reduceAdd, Nat.reduceEqDiff, Nat.reduceBEq, Nat.reduceLeDiff, Nat.reduceMul, ttL, tyL, ht, Bool.not_false]
    (refine StG.by hE ht 9000 rfl ?_ <;> simp only [evX, reduceIte, reduceCtorEq, Nat.reduceLT, Nat.reduceAdd, Nat.reduceEqDiff, Nat.reduceBEq, Nat.reduceLeDiff, Nat.reduceMul, ttL, tyL, ht])
    (refine StG.by hE ht 9000 rfl ?_ <;> simp only [evX, reduceIte, reduceCtorEq, Nat.reduceLT, Nat.reduceAdd, Nat.reduceEqDiff, Nat.reduceBEq, Nat.reduceLeDiff, Nat.reduceMul, ttL, tyL, ht])
    rw [e]
    exact RetQ.cct (.inr rfl) (cellV rfl rfl rfl rfl rfl rfl rfl rfl rfl) (cellV rfl rfl rfl rfl rfl rfl rfl rfl rfl) rfl rfl
  | true =>
    cases h2 : hunkOk q with
    | false =>
      have e : passHT p q = (hunkZ, hunkZ, false) := by rw [passHT, passH, if_neg (by rw [h2]; simp)]
      (refine Ok.code hT hM (fn := Tryz.f71) rfl rfl rfl _ _ rfl rfl (Nat.le_of_ble_eq_true rfl) fun E hE hP ht h0 hrd => ?_; refine Go.run hE 9000 ?_; simp only [Tryz.f71, evX, reduceIte, reduceCtorEq, Nat.reduceLT, Nat.reduceAdd, Nat.reduceEqDiff, Nat.reduceBEq, Nat.reduceLeDiff, Nat.reduceMul, ttL, tyL, ht])
      (refine CallG.ok hE 9000 (hP ▸ ok_hunkMay p) rfl rfl ?_ <;> simp only [evX, reduceIte, reduceCtorEq, Nat.reduceLT, Nat.reduceAdd, Nat.reduceEqDiff, Nat.reduceBEq, Nat.reduceLeDiff, Nat.reduceMul, ttL, tyL, ht])
      simp only [h1, evX, reduceIte, reduceCtorEq, Nat.reduceLT, Nat.reduceAdd, Nat.reduceEqDiff, Nat.reduceBEq, Nat.reduceLeDiff, Nat.reduceMul, ttL, tyL, ht, Bool.not_true]
      (refine CallG.ok hE 9000 (hP ▸ ok_hunkMay q) rfl rfl ?_ <;> simp only [evX, reduceIte, reduceCtorEq, Nat.reduceLT, Nat.reduceAdd, Nat.reduceEqDiff, Nat.reduceBEq, Nat.reduceLeDiff, Nat.reduceMul, ttL, tyL, ht])
      simp only [h2, evX, reduceIte, reduceCtorEq, Nat.reduceLT, Nat.reduceAdd, Nat.reduceEqDiff, Nat.reduceBEq, Nat.reduceLeDiff, Nat.reduceMul, ttL, tyL, ht, Bool.not_false]
      (refine StG.by hE ht 9000 rfl ?_ <;> simp only [evX, reduceIte, reduceCtorEq, Nat.reduceLT, Nat.reduceAdd, Nat.reduceEqDiff, Nat.reduceBEq, Nat.reduceLeDiff, Nat.reduceMul, ttL, tyL, ht])
      (refine StG.by hE ht 9000 rfl ?_ <;> simp only [evX, reduceIte, reduceCtorEq, Nat.reduceLT, Nat.reduceAdd, Nat.reduceEqDiff, Nat.reduceBEq, Nat.reduceLeDiff, Nat.reduceMul, ttL, tyL, ht])
      rw [e]
      exact RetQ.cct (.inr rfl) (cellV rfl rfl rfl rfl rfl rfl rfl rfl rfl) (cellV rfl rfl rfl rfl rfl rfl rfl rfl rfl) rfl rfl
    | true =>
      have o1 := hunkOk_at h1
      have o2 := hunkOk_at h2
      have l1 := hunkOk_len h1
      have l2 := hunkOk_len h2
      (refine Ok.code hT hM (fn := Tryz.f71) rfl rfl rfl _ _ rfl rfl (Nat.le_of_ble_eq_true rfl) fun E hE hP ht h0 hrd => ?_; refine Go.run hE 9000 ?_; simp only [Tryz.f71, evX, reduceIte, reduceCtorEq, Nat.reduceLT, Nat.reduceAdd, Nat.reduceEqDiff, Nat.reduceBEq, Nat.reduceLeDiff, Nat.reduceMul, ttL, tyL, ht])
      (refine CallG.ok hE 9000 (hP ▸ ok_hunkMay p) rfl rfl ?_ <;> simp only [evX, reduceIte, reduceCtorEq, Nat.reduceLT, Nat.reduceAdd, Nat.reduceEqDiff, Nat.reduceBEq, Nat.reduceLeDiff, Nat.reduceMul, ttL, tyL, ht])
      simp only [h1, evX, reduceIte, reduceCtorEq, Nat.reduceLT, Nat.reduceAdd, Nat.reduceEqDiff, Nat.reduceBEq, Nat.reduceLeDiff, Nat.reduceMul, ttL, tyL, ht, Bool.not_true]
      (refine CallG.ok hE 9000 (hP ▸ ok_hunkMay q) rfl rfl ?_ <;> simp only [evX, reduceIte, reduceCtorEq, Nat.reduceLT, Nat.reduceAdd, Nat.reduceEqDiff, Nat.reduceBEq, Nat.reduceLeDiff, Nat.reduceMul, ttL, tyL, ht])
      simp only [h2, evX, reduceIte, reduceCtorEq, Nat.reduceLT, Nat.reduceAdd, Nat.reduceEqDiff, Nat.reduceBEq, Nat.reduceLeDiff, Nat.reduceMul, ttL, tyL, ht, Bool.not_true]
      (refine CallG.ok hE 9000 (hP ▸ ok_ways p q) rfl rfl ?_ <;> simp only [evX, reduceIte, reduceCtorEq, Nat.reduceLT, Nat.reduceAdd, Nat.reduceEqDiff, Nat.reduceBEq, Nat.reduceLeDiff, Nat.reduceMul, ttL, tyL, ht])
      refine Loop.by hE (ι := {i : Nat // i ≤ 2 ∧ (1 ≤ i → ¬ q.at_ > p.at_ + p.new.length) ∧ (2 ≤ i → ¬ p.at_ > q.at_ + q.old.length)}) (fun i => ⟨61, [(2, .ptr 0 0), (3, .ptr 1 0), (4, .ptr 2 0), (5, .ptr 3 0), (24, .c (.sl [[.fn 105 [hunkC q, hunkC p]], [.fn 107 [hunkC p, hunkC q]]])), (25, intA 2), (26, intA i.1)], [.cells [intA p.at_, strsA p.old, strsA p.new], .cells [intA q.at_, strsA q.old, strsA q.new], .cells [intA 0, .nil, .nil], .cells [intA 0, .nil, .nil]], [], []⟩) (fun i => 2 - i.1) ⟨0, by simp⟩ 9000 ⟨[0, 1, 2, 3], Wk.of rfl (by simp) (by rw [h0]; simp [fixB]) (by simp [wkT, okA, wkP, cloE, Vam.look, sig, ]) (by simp [wkBs, setBx, nthB, wkBx, wkL, okA, wkP, cloE, sig, ]) (by simp) (by simp)⟩ (by simp [h0]) ?_
      rintro ⟨i, hi, n1, n2⟩
      simp only [evX, reduceIte, reduceCtorEq, Nat.reduceLT, Nat.reduceAdd, Nat.reduceEqDiff, Nat.reduceBEq, Nat.reduceLeDiff, Nat.reduceMul, ttL, tyL, ht]
      ((first | refine SelF.byN (fun hb => ?_) (fun hb => ?_) | refine SelF.by (fun hb => ?_) (fun hb => ?_)) <;> simp only [hb, evX, reduceIte, reduceCtorEq, Nat.reduceLT, Nat.reduceAdd, Nat.reduceEqDiff, Nat.reduceBEq, Nat.reduceLeDiff, Nat.reduceMul, ttL, tyL, ht])
      · simp only [decide_eq_true_eq] at hb
        have hi2 : i = 0 ∨ i = 1 := by omega
        rcases hi2 with rfl | rfl
        · refine IdxR.by hE 9000 (by decide) rfl rfl ?_
          simp only [evX, reduceIte, reduceCtorEq, Nat.reduceLT, Nat.reduceAdd, Nat.reduceEqDiff, Nat.reduceBEq, Nat.reduceLeDiff, Nat.reduceMul, ttL, tyL, ht]
          (refine CallG.ok hE 9000 (hP ▸ ok_way1 p q bP h1) rfl rfl ?_ <;> simp only [evX, reduceIte, reduceCtorEq, Nat.reduceLT, Nat.reduceAdd, Nat.reduceEqDiff, Nat.reduceBEq, Nat.reduceLeDiff, Nat.reduceMul, ttL, tyL, ht])
          have w0 : IntKind.i64.wrap (p.at_ + 0) = p.at_ := by rw [IntKind.wrap_i64]; omega
          have w1 : IntKind.i64.wrap (q.at_ + -byH p) = q.at_ - byH p := by rw [IntKind.wrap_i64, byH]; omega
          have p0 : decide (p.at_ ≤ 1048576) = true := by simpa using o1.2
          ((first | refine SelF.byN (fun hb => ?_) (fun hb => ?_) | refine SelF.by (fun hb => ?_) (fun hb => ?_)) <;> simp only [hb, evX, reduceIte, reduceCtorEq, Nat.reduceLT, Nat.reduceAdd, Nat.reduceEqDiff, Nat.reduceBEq, Nat.reduceLeDiff, Nat.reduceMul, ttL, tyL, ht])
          · have k1 : q.at_ > p.at_ + p.new.length := by simpa using hb
            simp only [w0, w1, p0, evX, reduceIte, reduceCtorEq, Nat.reduceLT, Nat.reduceAdd, Nat.reduceEqDiff, Nat.reduceBEq, Nat.reduceLeDiff, Nat.reduceMul, ttL, tyL, ht]
            ((first | refine SelF.byN (fun hb => ?_) (fun hb => ?_) | refine SelF.by (fun hb => ?_) (fun hb => ?_)) <;> simp only [hb, evX, reduceIte, reduceCtorEq, Nat.reduceLT, Nat.reduceAdd, Nat.reduceEqDiff, Nat.reduceBEq, Nat.reduceLeDiff, Nat.reduceMul, ttL, tyL, ht])
            · have k2 : q.at_ - byH p ≤ 1048576 := by simpa using hb
              (refine CallG.ok hE 9000 (hP ▸ ok_swapOwn q (-byH p) bQ (by unfold byH; omega)) rfl rfl ?_ <;> simp only [evX, reduceIte, reduceCtorEq, Nat.reduceLT, Nat.reduceAdd, Nat.reduceEqDiff, Nat.reduceBEq, Nat.reduceLeDiff, Nat.reduceMul, ttL, tyL, ht])
              (refine CallG.ok hE 9000 (hP ▸ ok_swapOwn p 0 bP (by omega)) rfl rfl ?_ <;> simp only [evX, reduceIte, reduceCtorEq, Nat.reduceLT, Nat.reduceAdd, Nat.reduceEqDiff, Nat.reduceBEq, Nat.reduceLeDiff, Nat.reduceMul, ttL, tyL, ht])
              (refine StG.byX hE ht 9000 rfl rfl ?_ <;> simp only [evX, reduceIte, reduceCtorEq, Nat.reduceLT, Nat.reduceAdd, Nat.reduceEqDiff, Nat.reduceBEq, Nat.reduceLeDiff, Nat.reduceMul, ttL, tyL, ht])
              (refine StG.byX hE ht 9000 rfl rfl ?_ <;> simp only [evX, reduceIte, reduceCtorEq, Nat.reduceLT, Nat.reduceAdd, Nat.reduceEqDiff, Nat.reduceBEq, Nat.reduceLeDiff, Nat.reduceMul, ttL, tyL, ht])
              refine ⟨by kernel_rfl, ?_⟩
              have e : passHT p q = (moved q (-byH p), moved p 0, true) := by
                rw [passHT, passH, if_pos ⟨h1, h2⟩, if_pos k1, if_pos k2, moved_zero]
              rw [e]
              exact RetQ.cct (.inr rfl) (cellV rfl rfl rfl rfl rfl rfl rfl rfl rfl) (cellV rfl rfl rfl rfl rfl rfl rfl rfl rfl) rfl rfl
            · have k2 : ¬ q.at_ - byH p ≤ 1048576 := by simpa using hb
              (refine StG.by hE ht 9000 rfl ?_ <;> simp only [evX, reduceIte, reduceCtorEq, Nat.reduceLT, Nat.reduceAdd, Nat.reduceEqDiff, Nat.reduceBEq, Nat.reduceLeDiff, Nat.reduceMul, ttL, tyL, ht])
              (refine StG.by hE ht 9000 rfl ?_ <;> simp only [evX, reduceIte, reduceCtorEq, Nat.reduceLT, Nat.reduceAdd, Nat.reduceEqDiff, Nat.reduceBEq, Nat.reduceLeDiff, Nat.reduceMul, ttL, tyL, ht])
              have e : passHT p q = (hunkZ, hunkZ, false) := by
                rw [passHT, passH, if_pos ⟨h1, h2⟩, if_pos k1, if_neg k2]
              rw [e]
              exact RetQ.cct (.inr rfl) (cellV rfl rfl rfl rfl rfl rfl rfl rfl rfl) (cellV rfl rfl rfl rfl rfl rfl rfl rfl rfl) rfl rfl
          · have k1 : ¬ q.at_ > p.at_ + p.new.length := by simpa using hb
            have u1 : IntKind.i64.wrap 1 = 1 := by decide
            refine ⟨⟨1, by omega, fun _ => k1, fun h => by omega⟩, [0, 1, 2, 3], Wk.of rfl (by simp) (by rw [h0]; simp [fixB]) (by simp [wkT, okA, wkP, cloE, Vam.look, sig, u1]) (by simp [wkBs, setBx, nthB, wkBx, wkL, okA, wkP, cloE, sig, u1]) (by simp) (by simp), by simp only; omega⟩
        · have k1 := n1 (Nat.le_refl _)
          refine IdxR.by hE 9000 (by decide) rfl rfl ?_
          simp only [evX, reduceIte, reduceCtorEq, Nat.reduceLT, Nat.reduceAdd, Nat.reduceEqDiff, Nat.reduceBEq, Nat.reduceLeDiff, Nat.reduceMul, ttL, tyL, ht]
          (refine CallG.ok hE 9000 (hP ▸ ok_way2 p q bQ h2) rfl rfl ?_ <;> simp only [evX, reduceIte, reduceCtorEq, Nat.reduceLT, Nat.reduceAdd, Nat.reduceEqDiff, Nat.reduceBEq, Nat.reduceLeDiff, Nat.reduceMul, ttL, tyL, ht])
          have w0 : IntKind.i64.wrap (q.at_ + 0) = q.at_ := by rw [IntKind.wrap_i64]; omega
          have w1 : IntKind.i64.wrap (p.at_ + byH q) = p.at_ + byH q := by rw [IntKind.wrap_i64, byH]; omega
          have p0 : decide (q.at_ ≤ 1048576) = true := by simpa using o2.2
          ((first | refine SelF.byN (fun hb => ?_) (fun hb => ?_) | refine SelF.by (fun hb => ?_) (fun hb => ?_)) <;> simp only [hb, evX, reduceIte, reduceCtorEq, Nat.reduceLT, Nat.reduceAdd, Nat.reduceEqDiff, Nat.reduceBEq, Nat.reduceLeDiff, Nat.reduceMul, ttL, tyL, ht])
          · have k3 : p.at_ > q.at_ + q.old.length := by simpa using hb
            simp only [w1, evX, reduceIte, reduceCtorEq, Nat.reduceLT, Nat.reduceAdd, Nat.reduceEqDiff, Nat.reduceBEq, Nat.reduceLeDiff, Nat.reduceMul, ttL, tyL, ht]
            ((first | refine SelF.byN (fun hb => ?_) (fun hb => ?_) | refine SelF.by (fun hb => ?_) (fun hb => ?_)) <;> simp only [hb, evX, reduceIte, reduceCtorEq, Nat.reduceLT, Nat.reduceAdd, Nat.reduceEqDiff, Nat.reduceBEq, Nat.reduceLeDiff, Nat.reduceMul, ttL, tyL, ht])
            · have k2 : p.at_ + byH q ≤ 1048576 := by simpa using hb
              simp only [w0, p0, evX, reduceIte, reduceCtorEq, Nat.reduceLT, Nat.reduceAdd, Nat.reduceEqDiff, Nat.reduceBEq, Nat.reduceLeDiff, Nat.reduceMul, ttL, tyL, ht]
              (refine CallG.ok hE 9000 (hP ▸ ok_swapOwn q 0 bQ (by omega)) rfl rfl ?_ <;> simp only [evX, reduceIte, reduceCtorEq, Nat.reduceLT, Nat.reduceAdd, Nat.reduceEqDiff, Nat.reduceBEq, Nat.reduceLeDiff, Nat.reduceMul, ttL, tyL, ht])
              (refine CallG.ok hE 9000 (hP ▸ ok_swapOwn p (byH q) bP (by unfold byH; omega)) rfl rfl ?_ <;> simp only [evX, reduceIte, reduceCtorEq, Nat.reduceLT, Nat.reduceAdd, Nat.reduceEqDiff, Nat.reduceBEq, Nat.reduceLeDiff, Nat.reduceMul, ttL, tyL, ht])
              (refine StG.byX hE ht 9000 rfl rfl ?_ <;> simp only [evX, reduceIte, reduceCtorEq, Nat.reduceLT, Nat.reduceAdd, Nat.reduceEqDiff, Nat.reduceBEq, Nat.reduceLeDiff, Nat.reduceMul, ttL, tyL, ht])
              (refine StG.byX hE ht 9000 rfl rfl ?_ <;> simp only [evX, reduceIte, reduceCtorEq, Nat.reduceLT, Nat.reduceAdd, Nat.reduceEqDiff, Nat.reduceBEq, Nat.reduceLeDiff, Nat.reduceMul, ttL, tyL, ht])
              refine ⟨by kernel_rfl, ?_⟩
              have e : passHT p q = (moved q 0, moved p (byH q), true) := by
                rw [passHT, passH, if_pos ⟨h1, h2⟩, if_neg k1, if_pos k3, if_pos k2, moved_zero]
              rw [e]
              exact RetQ.cct (.inr rfl) (cellV rfl rfl rfl rfl rfl rfl rfl rfl rfl) (cellV rfl rfl rfl rfl rfl rfl rfl rfl rfl) rfl rfl
            · have k2 : ¬ p.at_ + byH q ≤ 1048576 := by simpa using hb
              (refine StG.by hE ht 9000 rfl ?_ <;> simp only [evX, reduceIte, reduceCtorEq, Nat.reduceLT, Nat.reduceAdd, Nat.reduceEqDiff, Nat.reduceBEq, Nat.reduceLeDiff, Nat.reduceMul, ttL, tyL, ht])
              (refine StG.by hE ht 9000 rfl ?_ <;> simp only [evX, reduceIte, reduceCtorEq, Nat.reduceLT, Nat.reduceAdd, Nat.reduceEqDiff, Nat.reduceBEq, Nat.reduceLeDiff, Nat.reduceMul, ttL, tyL, ht])
              have e : passHT p q = (hunkZ, hunkZ, false) := by
                rw [passHT, passH, if_pos ⟨h1, h2⟩, if_neg k1, if_pos k3, if_neg k2]
              rw [e]
              exact RetQ.cct (.inr rfl) (cellV rfl rfl rfl rfl rfl rfl rfl rfl rfl) (cellV rfl rfl rfl rfl rfl rfl rfl rfl rfl) rfl rfl
          · have k3 : ¬ p.at_ > q.at_ + q.old.length := by simpa using hb
            have u1 : IntKind.i64.wrap 2 = 2 := by decide
            refine ⟨⟨2, by omega, fun _ => k1, fun _ => k3⟩, [0, 1, 2, 3], Wk.of rfl (by simp) (by rw [h0]; simp [fixB]) (by simp [wkT, okA, wkP, cloE, Vam.look, sig, u1]) (by simp [wkBs, setBx, nthB, wkBx, wkL, okA, wkP, cloE, sig, u1]) (by simp) (by simp), by simp only; omega⟩
      · have hi2 : i = 2 := by simp at hb; omega
        subst hi2
        have k1 := n1 (by omega)
        have k3 := n2 (by omega)
        (refine StG.by hE ht 9000 rfl ?_ <;> simp only [evX, reduceIte, reduceCtorEq, Nat.reduceLT, Nat.reduceAdd, Nat.reduceEqDiff, Nat.reduceBEq, Nat.reduceLeDiff, Nat.reduceMul, ttL, tyL, ht])
        (refine StG.by hE ht 9000 rfl ?_ <;> simp only [evX, reduceIte, reduceCtorEq, Nat.reduceLT, Nat.reduceAdd, Nat.reduceEqDiff, Nat.reduceBEq, Nat.reduceLeDiff, Nat.reduceMul, ttL, tyL, ht])
        have e : passHT p q = (hunkZ, hunkZ, false) := by
          rw [passHT, passH, if_pos ⟨h1, h2⟩, if_neg k1, if_neg k3]
        rw [e]
        exact RetQ.cct (.inr rfl) (cellV rfl rfl rfl rfl rfl rfl rfl rfl rfl) (cellV rfl rfl rfl rfl rfl rfl rfl rfl rfl) rfl rfl
end Go.Proofs.YtfjlopdofjbfgaaGreat
