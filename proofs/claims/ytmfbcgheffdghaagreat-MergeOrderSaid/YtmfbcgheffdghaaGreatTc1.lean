/- Lines within lines: where they stand, one for the other; hunks. -/
import Derived.Test.YtmfbcgheffdghaaGreatS2
import Derived.Test.YtmfbcgheffdghaaGreatG11
import Derived.Test.YtmfbcgheffdghaaGreatG10
namespace Go.Proofs.YtmfbcgheffdghaaGreat
open Go.Vam Go.Qm
set_option linter.unusedVariables false
set_option linter.unusedSimpArgs false
set_option maxRecDepth 8000

theorem ok_EqualMany (a b : List Str) (hl : a.length < 9223372036854775807) : Ok Tryz.prog 148 [strsA a, strsA b] (.v (boolA (strsEq a b))) := by
  (refine Ok.code hT hM (fn := Tryz.f148) rfl rfl rfl _ _ rfl rfl (Nat.le_of_ble_eq_true rfl) fun E hE hP ht h0 hrd => ?_; refine Go.run hE 9000 ?_; simp only [Tryz.f148, evX, reduceIte, reduceCtorEq, Nat.reduceLT, Nat.reduceAdd, Nat.reduceEqDiff, Nat.reduceBEq, Nat.reduceLeDiff, Nat.reduceMul, ttL, tyL, ht])
  ((first | refine SelF.byN (fun hb => ?_) (fun hb => ?_) | refine SelF.by (fun hb => ?_) (fun hb => ?_)) <;> simp only [hb, evX, reduceIte, reduceCtorEq, Nat.reduceLT, Nat.reduceAdd, Nat.reduceEqDiff, Nat.reduceBEq, Nat.reduceLeDiff, Nat.reduceMul, ttL, tyL, ht])
  · exact RetQ.bool (.inr rfl) rfl (all2_ne (by simp at hb; omega)).symm
  · have hlen : a.length = b.length := by simp at hb; omega
    refine Loop.by hE (ι := {i : Nat // i ≤ a.length ∧ strsEq (a.take i) (b.take i) = true}) (fun i => ⟨26, [(0, strsA a), (1, strsA b), (12, intA a.length), (13, intA i.1)], [], [], []⟩) (fun i => a.length - i.1) ⟨0, by simp [all2]⟩ 9000 ⟨[], Wk.of rfl (by simp) (by rw [h0]; simp [fixB]) (by simp [wkT, okA, wkP, cloE, Vam.look, sig, ]) (by simp [wkBs, setBx, nthB, wkBx, wkL, okA, wkP, cloE, sig, ]) (by simp) (by simp)⟩ (by simp [h0]) ?_
    rintro ⟨i, hi, hall⟩
    simp only [evX, reduceIte, reduceCtorEq, Nat.reduceLT, Nat.reduceAdd, Nat.reduceEqDiff, Nat.reduceBEq, Nat.reduceLeDiff, Nat.reduceMul, ttL, tyL, ht]
    ((first | refine SelF.byN (fun hb => ?_) (fun hb => ?_) | refine SelF.by (fun hb => ?_) (fun hb => ?_)) <;> simp only [hb, evX, reduceIte, reduceCtorEq, Nat.reduceLT, Nat.reduceAdd, Nat.reduceEqDiff, Nat.reduceBEq, Nat.reduceLeDiff, Nat.reduceMul, ttL, tyL, ht])
    · simp only [decide_eq_true_eq] at hb
      have hlt : i < a.length := by omega
      have hlt2 : i < b.length := by omega
      refine IdxR.nat hE 9000 hlt rfl ?_
      simp only [evX, reduceIte, reduceCtorEq, Nat.reduceLT, Nat.reduceAdd, Nat.reduceEqDiff, Nat.reduceBEq, Nat.reduceLeDiff, Nat.reduceMul, ttL, tyL, ht]
      refine IdxR.nat hE 9000 hlt2 rfl ?_
      simp only [evX, reduceIte, reduceCtorEq, Nat.reduceLT, Nat.reduceAdd, Nat.reduceEqDiff, Nat.reduceBEq, Nat.reduceLeDiff, Nat.reduceMul, ttL, tyL, ht]
      refine ⟨by kernel_rfl, ?_⟩
      ((first | refine SelF.byN (fun hb => ?_) (fun hb => ?_) | refine SelF.by (fun hb => ?_) (fun hb => ?_)) <;> simp only [hb, evX, reduceIte, reduceCtorEq, Nat.reduceLT, Nat.reduceAdd, Nat.reduceEqDiff, Nat.reduceBEq, Nat.reduceLeDiff, Nat.reduceMul, ttL, tyL, ht])
      · exact RetQ.bool (.inr rfl) rfl (all2_at hlt hlt2 (by simpa [str_beq] using hb)).symm
      · refine ⟨⟨i + 1, by omega, (all2_take hlt hlt2).trans (by rw [show all2 _ _ _ = true from hall]; simpa [str_beq] using hb)⟩, [], Wk.of rfl (by simp) (by rw [h0]; simp [fixB]) (by simp [wkT, okA, wkP, cloE, Vam.look, sig, wrapN i (by omega)]) (by simp [wkBs, setBx, nthB, wkBx, wkL, okA, wkP, cloE, sig, wrapN i (by omega)]) (by simp) (by simp), by simp only; omega⟩
    · exact RetQ.bool (.inr rfl) rfl (all2_full hi (by simpa using hb) hlen hall).symm
theorem ok_manyAt (a b : List Str) (k : Int) (ha : a.length * 16 ≤ 140737488355328) (hb' : b.length * 16 ≤ 140737488355328) (hk : i64 k) : Ok Tryz.prog 144 [strsA a, intA k, strsA b] (.v (boolA (atL a k b))) := by
  unfold i64 at hk
  (refine Ok.code hT hM (fn := Tryz.f144) rfl rfl rfl _ _ rfl rfl (Nat.le_of_ble_eq_true rfl) fun E hE hP ht h0 hrd => ?_; refine Go.run hE 9000 ?_; simp only [Tryz.f144, evX, reduceIte, reduceCtorEq, Nat.reduceLT, Nat.reduceAdd, Nat.reduceEqDiff, Nat.reduceBEq, Nat.reduceLeDiff, Nat.reduceMul, ttL, tyL, ht])
  ((first | refine SelF.byN (fun hb => ?_) (fun hb => ?_) | refine SelF.by (fun hb => ?_) (fun hb => ?_)) <;> simp only [hb, evX, reduceIte, reduceCtorEq, Nat.reduceLT, Nat.reduceAdd, Nat.reduceEqDiff, Nat.reduceBEq, Nat.reduceLeDiff, Nat.reduceMul, ttL, tyL, ht])
  · have h1 : 0 ≤ k := by simpa using hb
    ((first | refine SelF.byN (fun hb => ?_) (fun hb => ?_) | refine SelF.by (fun hb => ?_) (fun hb => ?_)) <;> simp only [hb, evX, reduceIte, reduceCtorEq, Nat.reduceLT, Nat.reduceAdd, Nat.reduceEqDiff, Nat.reduceBEq, Nat.reduceLeDiff, Nat.reduceMul, ttL, tyL, ht])
    · have h2 : k ≤ a.length := by simpa using hb
      have hw : IntKind.i64.wrap ((a.length : Int) - k) = a.length - k := by rw [IntKind.wrap_i64]; omega
      have hw2 : IntKind.i64.wrap (k + (b.length : Int)) = k + b.length := by rw [IntKind.wrap_i64]; omega
      ((first | refine SelF.byN (fun hb => ?_) (fun hb => ?_) | refine SelF.by (fun hb => ?_) (fun hb => ?_)) <;> simp only [hb, evX, reduceIte, reduceCtorEq, Nat.reduceLT, Nat.reduceAdd, Nat.reduceEqDiff, Nat.reduceBEq, Nat.reduceLeDiff, Nat.reduceMul, ttL, tyL, ht])
      · rw [hw] at hb
        have h3 : (b.length : Int) ≤ a.length - k := by simpa using hb
        refine SlcR.by hE 9000 (rowLen_strs a) (by simpa using h1) (by simp [hw2]; omega) (by simp [hw2]; omega) ?_
        simp only [evX, reduceIte, reduceCtorEq, Nat.reduceLT, Nat.reduceAdd, Nat.reduceEqDiff, Nat.reduceBEq, Nat.reduceLeDiff, Nat.reduceMul, ttL, tyL, ht, hw2, Option.getD_some, ← List.map_take, ← List.map_drop]
        (refine CallG.ok hE 9000 (hP ▸ ok_EqualMany ((a.take (k + b.length).toNat).drop k.toNat) b (by simp; omega)) rfl rfl ?_ <;> simp only [evX, reduceIte, reduceCtorEq, Nat.reduceLT, Nat.reduceAdd, Nat.reduceEqDiff, Nat.reduceBEq, Nat.reduceLeDiff, Nat.reduceMul, ttL, tyL, ht])
        have e : (a.take (k + b.length).toNat).drop k.toNat = (a.drop k.toNat).take b.length := by rw [List.drop_take]; congr 1; omega
        exact RetQ.bool (.inr rfl) rfl (by simp [atL, h1, h2, h3, e])
      · rw [hw] at hb
        exact RetQ.bool (.inr rfl) rfl (by simp at hb; simp [atL]; intros; omega)
    · exact RetQ.bool (.inr rfl) rfl (by simp at hb; simp [atL]; intros; omega)
  · exact RetQ.bool (.inr rfl) rfl (by simp at hb; simp [atL]; intros; omega)
theorem ok_seqAt (a b : List Str) (k : Int) (ha : a.length * 16 ≤ 140737488355328) (hb' : b.length * 16 ≤ 140737488355328) (hk : i64 k) : Ok Tryz.prog 139 [strsA a, intA k, strsA b] (.v (boolA (atL a k b))) := by
  (refine Ok.code hT hM (fn := Tryz.f139) rfl rfl rfl _ _ rfl rfl (Nat.le_of_ble_eq_true rfl) fun E hE hP ht h0 hrd => ?_; refine Go.run hE 9000 ?_; simp only [Tryz.f139, evX, reduceIte, reduceCtorEq, Nat.reduceLT, Nat.reduceAdd, Nat.reduceEqDiff, Nat.reduceBEq, Nat.reduceLeDiff, Nat.reduceMul, ttL, tyL, ht])
  (refine CallG.ok hE 9000 (hP ▸ ok_manyAt a b k ha hb' hk) rfl rfl ?_ <;> simp only [evX, reduceIte, reduceCtorEq, Nat.reduceLT, Nat.reduceAdd, Nat.reduceEqDiff, Nat.reduceBEq, Nat.reduceLeDiff, Nat.reduceMul, ttL, tyL, ht])
  exact RetQ.bool (.inr rfl) rfl rfl
theorem ok_Grow (n : Nat) (hn : n * 16 ≤ 140737488355328) : Ok Tryz.prog 145 [.nil, intA n] (.own 9 1 []) := by
  have hw : IntKind.i64.wrap ((n : Int) - 0) = n := by rw [IntKind.wrap_i64]; omega
  (refine Ok.code hT hM (fn := Tryz.f145) rfl rfl rfl _ _ rfl rfl (Nat.le_of_ble_eq_true rfl) fun E hE hP ht h0 hrd => ?_; refine Go.run hE 9000 ?_; simp only [Tryz.f145, evX, reduceIte, reduceCtorEq, Nat.reduceLT, Nat.reduceAdd, Nat.reduceEqDiff, Nat.reduceBEq, Nat.reduceLeDiff, Nat.reduceMul, ttL, tyL, ht])
  ((first | refine SelF.byN (fun hb => ?_) (fun hb => ?_) | refine SelF.by (fun hb => ?_) (fun hb => ?_)) <;> simp only [hb, evX, reduceIte, reduceCtorEq, Nat.reduceLT, Nat.reduceAdd, Nat.reduceEqDiff, Nat.reduceBEq, Nat.reduceLeDiff, Nat.reduceMul, ttL, tyL, ht])
  · exact absurd hb (by simp)
  refine HardOp.capNil hE ht 9000 rfl rfl rfl rfl ?_
  simp only [evX, reduceIte, reduceCtorEq, Nat.reduceLT, Nat.reduceAdd, Nat.reduceEqDiff, Nat.reduceBEq, Nat.reduceLeDiff, Nat.reduceMul, ttL, tyL, ht, show IntKind.i64.wrap ((0 : Int) - 0) = 0 from rfl, hw]
  ((first | refine SelF.byN (fun hb => ?_) (fun hb => ?_) | refine SelF.by (fun hb => ?_) (fun hb => ?_)) <;> simp only [hb, evX, reduceIte, reduceCtorEq, Nat.reduceLT, Nat.reduceAdd, Nat.reduceEqDiff, Nat.reduceBEq, Nat.reduceLeDiff, Nat.reduceMul, ttL, tyL, ht])
  · have h0 : 0 < n := by simpa using hb
    refine HardOp.capNil hE ht 9000 rfl rfl rfl rfl ?_
    simp only [evX, reduceIte, reduceCtorEq, Nat.reduceLT, Nat.reduceAdd, Nat.reduceEqDiff, Nat.reduceBEq, Nat.reduceLeDiff, Nat.reduceMul, ttL, tyL, ht]
    refine HardOp.sliceNil hE ht 9000 rfl rfl rfl rfl rfl rfl ?_
    simp only [evX, reduceIte, reduceCtorEq, Nat.reduceLT, Nat.reduceAdd, Nat.reduceEqDiff, Nat.reduceBEq, Nat.reduceLeDiff, Nat.reduceMul, ttL, tyL, ht]
    refine HardOp.growNil (kn := .i64) hE ht 9000 rfl rfl rfl rfl (by rw [hP]; kernel_rfl) rfl rfl (by decide) rfl rfl h0 (by simpa [tyL] using hn) ?_
    simp only [evX, reduceIte, reduceCtorEq, Nat.reduceLT, Nat.reduceAdd, Nat.reduceEqDiff, Nat.reduceBEq, Nat.reduceLeDiff, Nat.reduceMul, ttL, tyL, ht]
    refine SlcO.by hE 9000 (by simp) (by simp) ?_
    simp only [evX, reduceIte, reduceCtorEq, Nat.reduceLT, Nat.reduceAdd, Nat.reduceEqDiff, Nat.reduceBEq, Nat.reduceLeDiff, Nat.reduceMul, ttL, tyL, ht]
    exact RetQ.own (.inr rfl) rfl rfl rfl rfl
  · exact RetQ.nil (.inr rfl) rfl
abbrev lolC (ls : List (List Str)) : List (List C) := ls.map fun l => [.sl (strsC l)]
theorem sum_take {ls : List (List Str)} {i : Nat} (h : i < ls.length) : (ls.take (i + 1)).flatten = (ls.take i).flatten ++ ls[i] := by
  rw [List.take_add_one, List.getElem?_eq_getElem h, List.flatten_append]; simp
theorem sum_le {ls : List (List Str)} {i : Nat} (h : i ≤ ls.length) : (ls.take i).flatten.length ≤ ls.flatten.length := by
  have := congrArg (fun l => l.flatten.length) (List.take_append_drop i ls)
  simp only [List.flatten_append, List.length_append] at this
  omega
theorem ok_Concat (ls : List (List Str)) (hl : ls.length < 9223372036854775807) (hn : ls.flatten.length * 16 ≤ 140737488355328) : Ok Tryz.prog 140 [.c (.sl (lolC ls))] (.v (strsA ls.flatten)) := by
  (refine Ok.code hT hM (fn := Tryz.f140) rfl rfl rfl _ _ rfl rfl (Nat.le_of_ble_eq_true rfl) fun E hE hP ht h0 hrd => ?_; refine Go.run hE 9000 ?_; simp only [Tryz.f140, evX, reduceIte, reduceCtorEq, Nat.reduceLT, Nat.reduceAdd, Nat.reduceEqDiff, Nat.reduceBEq, Nat.reduceLeDiff, Nat.reduceMul, ttL, tyL, ht])
  refine Loop.by hE (ι := {i : Nat // i ≤ ls.length}) (fun i => ⟨36, [(0, .c (.sl (lolC ls))), (3, intA (ls.take i.1).flatten.length), (9, .c (.sl (lolC ls))), (10, intA ls.length), (11, intA i.1)], [], [], []⟩) (fun i => ls.length - i.1) ⟨0, by simp⟩ 9000 ⟨[], Wk.of rfl (by simp) (by rw [h0]; simp [fixB]) (by simp [wkT, okA, wkP, cloE, Vam.look, sig, ]) (by simp [wkBs, setBx, nthB, wkBx, wkL, okA, wkP, cloE, sig, ]) (by simp) (by simp)⟩ (by simp [h0]) ?_
  rintro ⟨i, hi⟩
  simp only [evX, reduceIte, reduceCtorEq, Nat.reduceLT, Nat.reduceAdd, Nat.reduceEqDiff, Nat.reduceBEq, Nat.reduceLeDiff, Nat.reduceMul, ttL, tyL, ht]
  ((first | refine SelF.byN (fun hb => ?_) (fun hb => ?_) | refine SelF.by (fun hb => ?_) (fun hb => ?_)) <;> simp only [hb, evX, reduceIte, reduceCtorEq, Nat.reduceLT, Nat.reduceAdd, Nat.reduceEqDiff, Nat.reduceBEq, Nat.reduceLeDiff, Nat.reduceMul, ttL, tyL, ht])
  · simp only [decide_eq_true_eq] at hb
    have hlt : i < ls.length := by omega
    have hs := sum_take hlt
    have hle := sum_le (i := i + 1) hlt
    have hsl := congrArg List.length hs
    rw [List.length_append] at hsl
    have hw : IntKind.i64.wrap (((ls.take i).flatten.length : Int) + (ls[i].length : Int)) = (ls.take (i + 1)).flatten.length := by rw [IntKind.wrap_i64]; omega
    refine IdxR.nat hE 9000 hlt rfl ?_
    simp only [evX, reduceIte, reduceCtorEq, Nat.reduceLT, Nat.reduceAdd, Nat.reduceEqDiff, Nat.reduceBEq, Nat.reduceLeDiff, Nat.reduceMul, ttL, tyL, ht, List.length_map, hw]
    ((first | refine SelF.byN (fun hb => ?_) (fun hb => ?_) | refine SelF.by (fun hb => ?_) (fun hb => ?_)) <;> simp only [hb, evX, reduceIte, reduceCtorEq, Nat.reduceLT, Nat.reduceAdd, Nat.reduceEqDiff, Nat.reduceBEq, Nat.reduceLeDiff, Nat.reduceMul, ttL, tyL, ht])
    · exact absurd hb (by simp)
    · refine ⟨⟨i + 1, by omega⟩, [], Wk.of rfl (by simp) (by rw [h0]; simp [fixB]) (by simp [wkT, okA, wkP, cloE, Vam.look, sig, wrapN i (by omega)]) (by simp [wkBs, setBx, nthB, wkBx, wkL, okA, wkP, cloE, sig, wrapN i (by omega)]) (by simp) (by simp), by simp only; omega⟩
  · have : i = ls.length := by simp at hb; omega
    subst this
    rw [List.take_length]
    refine CallG.own0 hE hP 9000 (ok_Grow ls.flatten.length hn) rfl rfl ?_
    simp only [evX, reduceIte, reduceCtorEq, Nat.reduceLT, Nat.reduceAdd, Nat.reduceEqDiff, Nat.reduceBEq, Nat.reduceLeDiff, Nat.reduceMul, ttL, tyL, ht]
    refine Loop.by hE (ι := {i : Nat // i ≤ ls.length}) (fun i => ⟨36, [(0, .c (.sl (lolC ls))), (6, .own 0), (25, .c (.sl (lolC ls))), (26, intA ls.length), (27, intA i.1)], [.rows 9 1 (strsC (ls.take i.1).flatten)], [], []⟩) (fun i => ls.length - i.1) ⟨0, by simp⟩ 9000 ⟨[0], Wk.of rfl (by simp) (by rw [h0]; simp [fixB]) (by simp [wkT, okA, wkP, cloE, Vam.look, sig, ]) (by simp [wkBs, setBx, nthB, wkBx, wkL, okA, wkP, cloE, sig, ]) (by simp) (by simp)⟩ (by simp [h0]) ?_
    rintro ⟨i, hi⟩
    simp only [evX, reduceIte, reduceCtorEq, Nat.reduceLT, Nat.reduceAdd, Nat.reduceEqDiff, Nat.reduceBEq, Nat.reduceLeDiff, Nat.reduceMul, ttL, tyL, ht]
    ((first | refine SelF.byN (fun hb => ?_) (fun hb => ?_) | refine SelF.by (fun hb => ?_) (fun hb => ?_)) <;> simp only [hb, evX, reduceIte, reduceCtorEq, Nat.reduceLT, Nat.reduceAdd, Nat.reduceEqDiff, Nat.reduceBEq, Nat.reduceLeDiff, Nat.reduceMul, ttL, tyL, ht])
    · simp only [decide_eq_true_eq] at hb
      have hlt : i < ls.length := by omega
      have hs := sum_take hlt
      have hle := sum_le (i := i + 1) hlt
      have hsl := congrArg List.length hs
      rw [List.length_append] at hsl
      refine IdxR.nat hE 9000 hlt rfl ?_
      simp only [evX, reduceIte, reduceCtorEq, Nat.reduceLT, Nat.reduceAdd, Nat.reduceEqDiff, Nat.reduceBEq, Nat.reduceLeDiff, Nat.reduceMul, ttL, tyL, ht]
      refine AppG.by hE 9000 rfl rfl (rowLen_strs _) (by simp only [List.length_map]; omega) ?_
      simp only [evX, reduceIte, reduceCtorEq, Nat.reduceLT, Nat.reduceAdd, Nat.reduceEqDiff, Nat.reduceBEq, Nat.reduceLeDiff, Nat.reduceMul, ttL, tyL, ht]
      refine ⟨⟨i + 1, by omega⟩, [1], Wk.of rfl (by simp) (by rw [h0]; simp [fixB]) (by simp [wkT, okA, wkP, cloE, Vam.look, sig, wrapN i (by omega), hs]) (by simp [wkBs, setBx, nthB, wkBx, wkL, okA, wkP, cloE, sig, wrapN i (by omega), hs]) (by simp) (by simp), by simp only; omega⟩
    · have : i = ls.length := by simp at hb; omega
      subst this
      refine RetQ.ownV (.inr rfl) rfl rfl rfl ?_
      rw [List.take_length]
theorem ok_seqSwap (a b c : List Str) (k : Int) (ha : a.length * 16 ≤ Big) (hb' : b.length * 16 ≤ 140737488355328) (hc : c.length ≤ 200) (hk : i64 k) : Ok Tryz.prog 131 [strsA a, intA k, strsA b, strsA c] (.v (.tup [strsA (swapL a k b c).1, boolA (swapL a k b c).2])) := by
  simp only [Big] at ha
  cases hs : atL a k b with
  | false =>
    (refine Ok.code hT hM (fn := Tryz.f131) rfl rfl rfl _ _ rfl rfl (Nat.le_of_ble_eq_true rfl) fun E hE hP ht h0 hrd => ?_; refine Go.run hE 9000 ?_; simp only [Tryz.f131, evX, reduceIte, reduceCtorEq, Nat.reduceLT, Nat.reduceAdd, Nat.reduceEqDiff, Nat.reduceBEq, Nat.reduceLeDiff, Nat.reduceMul, ttL, tyL, ht])
    (refine CallG.ok hE 9000 (hP ▸ ok_seqAt a b k (by omega) hb' hk) rfl rfl ?_ <;> simp only [evX, reduceIte, reduceCtorEq, Nat.reduceLT, Nat.reduceAdd, Nat.reduceEqDiff, Nat.reduceBEq, Nat.reduceLeDiff, Nat.reduceMul, ttL, tyL, ht])
    simp only [hs, evX, reduceIte, reduceCtorEq, Nat.reduceLT, Nat.reduceAdd, Nat.reduceEqDiff, Nat.reduceBEq, Nat.reduceLeDiff, Nat.reduceMul, ttL, tyL, ht, Bool.not_false]
    refine RetQ.two (.inr rfl) rfl rfl rfl ?_
    rw [swapL, hs]; rfl
  | true =>
    have h := hs
    simp only [atL, Bool.and_eq_true, decide_eq_true_eq] at h
    obtain ⟨h1, h2, h3, _⟩ := h
    obtain ⟨n, rfl⟩ : ∃ n : Nat, k = n := ⟨k.toNat, by omega⟩
    have hw : IntKind.i64.wrap ((n : Int) + (b.length : Int)) = ((n + b.length : Nat) : Int) := by rw [IntKind.wrap_i64]; omega
    (refine Ok.code hT hM (fn := Tryz.f131) rfl rfl rfl _ _ rfl rfl (Nat.le_of_ble_eq_true rfl) fun E hE hP ht h0 hrd => ?_; refine Go.run hE 9000 ?_; simp only [Tryz.f131, evX, reduceIte, reduceCtorEq, Nat.reduceLT, Nat.reduceAdd, Nat.reduceEqDiff, Nat.reduceBEq, Nat.reduceLeDiff, Nat.reduceMul, ttL, tyL, ht])
    (refine CallG.ok hE 9000 (hP ▸ ok_seqAt a b n (by omega) hb' hk) rfl rfl ?_ <;> simp only [evX, reduceIte, reduceCtorEq, Nat.reduceLT, Nat.reduceAdd, Nat.reduceEqDiff, Nat.reduceBEq, Nat.reduceLeDiff, Nat.reduceMul, ttL, tyL, ht])
    simp only [hs, evX, reduceIte, reduceCtorEq, Nat.reduceLT, Nat.reduceAdd, Nat.reduceEqDiff, Nat.reduceBEq, Nat.reduceLeDiff, Nat.reduceMul, ttL, tyL, ht, Bool.not_true]
    refine HardOp.slice3 hE ht 9000 rfl rfl rfl rfl rfl rfl rfl (rowLen_strs a) (by omega) (by omega) (by simp; omega) ?_
    simp only [evX, reduceIte, reduceCtorEq, Nat.reduceLT, Nat.reduceAdd, Nat.reduceEqDiff, Nat.reduceBEq, Nat.reduceLeDiff, Nat.reduceMul, ttL, tyL, ht, hw]
    refine SlcR.by hE 9000 (rowLen_strs a) (by simp; omega) (by simp; omega) (by simp) ?_
    simp only [evX, reduceIte, reduceCtorEq, Nat.reduceLT, Nat.reduceAdd, Nat.reduceEqDiff, Nat.reduceBEq, Nat.reduceLeDiff, Nat.reduceMul, ttL, tyL, ht]
    have e1 : List.drop (((n + b.length : Nat) : Int)).toNat (List.take ((a.length : Int)).toNat (strsC a)) = strsC (a.drop (n + b.length)) := by
      rw [Int.toNat_natCast, Int.toNat_natCast, List.take_of_length_le (by simp)]; exact List.map_drop.symm
    have e2 : List.take ((n : Int)).toNat (strsC a) = strsC (a.take n) := by rw [Int.toNat_natCast]; exact List.map_take.symm
    simp only [List.length_map, e1, e2]
    (refine CallG.ok hE 9000 (hP ▸ ok_Concat [a.take n, c, a.drop (n + b.length)] (by simp) (by simp; omega)) rfl rfl ?_ <;> simp only [evX, reduceIte, reduceCtorEq, Nat.reduceLT, Nat.reduceAdd, Nat.reduceEqDiff, Nat.reduceBEq, Nat.reduceLeDiff, Nat.reduceMul, ttL, tyL, ht])
    refine ⟨by kernel_rfl, ?_⟩
    refine RetQ.two (.inr rfl) rfl rfl rfl ?_
    rw [swapL, if_pos hs]
    refine congrArg (fun r => [AV.c (C.sl (strsC r)), boolA true]) (?_ : _ = ([a.take n, c, a.drop (n + b.length)]).flatten)
    simp
theorem ok_hunkApply (l : List Str) (h : Hunk) (hl : l.length * 16 ≤ Big) (hB : hunkB h) (hR : hunkR h) : Ok Tryz.prog 112 [strsA l, hunkA h] (.v (.tup [strsA (applyH l h).1, intA (applyH l h).2])) := by
  have hk := hR.at_
  cases ho : hunkOk h with
  | false =>
    (refine Ok.code hT hM (fn := Tryz.f112) rfl rfl rfl _ _ rfl rfl (Nat.le_of_ble_eq_true rfl) fun E hE hP ht h0 hrd => ?_; refine Go.run hE 9000 ?_; simp only [Tryz.f112, evX, reduceIte, reduceCtorEq, Nat.reduceLT, Nat.reduceAdd, Nat.reduceEqDiff, Nat.reduceBEq, Nat.reduceLeDiff, Nat.reduceMul, ttL, tyL, ht])
    (refine CallG.ok hE 9000 (hP ▸ ok_hunkMay h) rfl rfl ?_ <;> simp only [evX, reduceIte, reduceCtorEq, Nat.reduceLT, Nat.reduceAdd, Nat.reduceEqDiff, Nat.reduceBEq, Nat.reduceLeDiff, Nat.reduceMul, ttL, tyL, ht])
    simp only [ho, evX, reduceIte, reduceCtorEq, Nat.reduceLT, Nat.reduceAdd, Nat.reduceEqDiff, Nat.reduceBEq, Nat.reduceLeDiff, Nat.reduceMul, ttL, tyL, ht, Bool.not_false]
    refine RetQ.two (.inr rfl) rfl rfl rfl ?_
    rw [applyH, ho]; rfl
  | true =>
    have hn := ho
    simp only [hunkOk, linesOk, Bool.and_eq_true, decide_eq_true_eq] at hn
    (refine Ok.code hT hM (fn := Tryz.f112) rfl rfl rfl _ _ rfl rfl (Nat.le_of_ble_eq_true rfl) fun E hE hP ht h0 hrd => ?_; refine Go.run hE 9000 ?_; simp only [Tryz.f112, evX, reduceIte, reduceCtorEq, Nat.reduceLT, Nat.reduceAdd, Nat.reduceEqDiff, Nat.reduceBEq, Nat.reduceLeDiff, Nat.reduceMul, ttL, tyL, ht])
    (refine CallG.ok hE 9000 (hP ▸ ok_hunkMay h) rfl rfl ?_ <;> simp only [evX, reduceIte, reduceCtorEq, Nat.reduceLT, Nat.reduceAdd, Nat.reduceEqDiff, Nat.reduceBEq, Nat.reduceLeDiff, Nat.reduceMul, ttL, tyL, ht])
    simp only [ho, evX, reduceIte, reduceCtorEq, Nat.reduceLT, Nat.reduceAdd, Nat.reduceEqDiff, Nat.reduceBEq, Nat.reduceLeDiff, Nat.reduceMul, ttL, tyL, ht, Bool.not_true]
    (refine CallG.ok hE 9000 (hP ▸ ok_seqSwap l h.old h.new h.at_ hl hB.1 (by omega) hk) rfl rfl ?_ <;> simp only [evX, reduceIte, reduceCtorEq, Nat.reduceLT, Nat.reduceAdd, Nat.reduceEqDiff, Nat.reduceBEq, Nat.reduceLeDiff, Nat.reduceMul, ttL, tyL, ht])
    cases hs : atL l h.at_ h.old with
    | false =>
      simp only [swapL, hs, evX, reduceIte, reduceCtorEq, Nat.reduceLT, Nat.reduceAdd, Nat.reduceEqDiff, Nat.reduceBEq, Nat.reduceLeDiff, Nat.reduceMul, ttL, tyL, ht, Bool.not_false, Bool.false_eq_true]
      refine RetQ.two (.inr rfl) rfl rfl rfl ?_
      rw [applyH, ho, hs]; rfl
    | true =>
      simp only [swapL, hs, evX, reduceIte, reduceCtorEq, Nat.reduceLT, Nat.reduceAdd, Nat.reduceEqDiff, Nat.reduceBEq, Nat.reduceLeDiff, Nat.reduceMul, ttL, tyL, ht, Bool.not_true]
      refine RetQ.two (.inr rfl) rfl rfl rfl ?_
      rw [applyH, ho, hs]; rfl
end Go.Proofs.YtmfbcgheffdghaaGreat
