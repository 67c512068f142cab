/- The program's functions, walked (part 14). -/
import Derived.Test.YtmfbcgheffdghaaGreatS9
import Derived.Test.YtmfbcgheffdghaaGreatG12
import Derived.Test.YtmfbcgheffdghaaGreatS6
import Derived.Test.YtmfbcgheffdghaaGreatG10
/- What stays and what is put behind: the program's way. -/
namespace Go.Proofs.YtmfbcgheffdghaaGreat
open Go.Vam Go.Qm
set_option linter.unusedVariables false
set_option linter.unusedSimpArgs false
set_option maxRecDepth 8000
set_option maxHeartbeats 4000000

theorem take_named {l : List Named} {i : Nat} (h : i < l.length) : namedsC (l.take i) ++ [[.sc (.int .i64 l[i].id.who), .sc (.int .i64 l[i].id.no), .sl (idsC l[i].deps), .sc (.string l[i].text), .sl (primsC l[i].l)]] = namedsC (l.take (i + 1)) := by
  rw [List.take_add_one, List.getElem?_eq_getElem h, namedsC, namedsC, List.map_append]
  rfl
theorem part_take {ids : List Qm.Id} {l : List Named} {i : Nat} (h : i < l.length) : partN (l.take (i + 1)) ids = partS ids (partN (l.take i) ids) l[i] := by
  rw [partN, partN, List.take_add_one, List.getElem?_eq_getElem h, List.foldl_append]
  rfl
theorem partS_ok {ids : List Qm.Id} {s : List Named × List Named} {p : Named} (h1 : ∀ x ∈ s.1, okN x) (h2 : ∀ x ∈ s.2, okN x) (hp : okN p) : (∀ x ∈ (partS ids s p).1, okN x) ∧ ∀ x ∈ (partS ids s p).2, okN x := by
  have hb : ∀ x ∈ s.2 ++ [p], okN x := fun x hx => by
    rcases List.mem_append.1 hx with h | h
    · exact h2 x h
    · simp only [List.mem_singleton] at h; subst h; exact hp
  unfold partS
  split
  · exact ⟨h1, hb⟩
  · split
    · rename_i x m e
      obtain ⟨k1, k2⟩ := overN_keep okN_pass e h2 hp
      refine ⟨fun z hz => ?_, k2⟩
      rcases List.mem_append.1 hz with h | h
      · exact h1 z h
      · simp only [List.mem_singleton] at h; subst h; exact k1
    · exact ⟨h1, hb⟩
theorem part_ok {ids : List Qm.Id} {l : List Named} (kl : ∀ p ∈ l, okN p) : (∀ x ∈ (partN l ids).1, okN x) ∧ ∀ x ∈ (partN l ids).2, okN x := by
  have key : ∀ (l : List Named) (s : List Named × List Named), (∀ x ∈ s.1, okN x) → (∀ x ∈ s.2, okN x) → (∀ p ∈ l, okN p) → (∀ x ∈ (l.foldl (partS ids) s).1, okN x) ∧ ∀ x ∈ (l.foldl (partS ids) s).2, okN x := by
    intro l
    induction l with
    | nil => intro s h1 h2 _; exact ⟨h1, h2⟩
    | cons p l ih =>
      intro s h1 h2 h3
      obtain ⟨k1, k2⟩ := partS_ok (ids := ids) h1 h2 (h3 p (by simp))
      exact ih _ k1 k2 fun x hx => h3 x (by simp [hx])
  exact key l ([], []) (by simp) (by simp) kl
theorem part_len {ids : List Qm.Id} (l : List Named) : (partN l ids).1.length + (partN l ids).2.length = l.length := by
  have := (part_perm ids l).length_eq
  simpa [idsN] using this
theorem ok_bubbleOwn (l : List Named) (bl : l.length * 80 ≤ 140737488355328) (kl : ∀ p ∈ l, okN p) : Ok Tryz.prog 34 [namedsA l] (.v (namedsA l)) := by
  (refine Ok.code hT hM (fn := Tryz.f34) rfl rfl rfl _ _ rfl rfl (Nat.le_of_ble_eq_true rfl) fun E hE hP ht h0 hrd => ?_; refine Go.run hE 9000 ?_; simp only [Tryz.f34, evX, reduceIte, reduceCtorEq, Nat.reduceLT, Nat.reduceAdd, Nat.reduceEqDiff, Nat.reduceBEq, Nat.reduceLeDiff, Nat.reduceMul, ttL, tyL, ht])
  refine Go.nilT 3 36 5 rfl ?_
  refine Loop.by hE (ι := {i : Nat // i ≤ l.length}) (fun i => ⟨27, [(3, .own 0), (9, namedsA l), (10, intA l.length), (11, intA (i.1 : Int))], [.rows 36 5 (namedsC (l.take i.1))], [], []⟩) (fun i => l.length - i.1) ⟨0, by simp⟩ 9000 ⟨[0], Wk.of rfl (by simp) (by rw [h0]; simp [fixB]) (by simp [wkT, okA, wkP, cloE, Vam.look, sig, ]) (by simp [wkBs, setBx, nthB, wkBx, wkL, okA, wkP, cloE, sig, ]) (by simp) (by simp)⟩ (by simp [h0]) ?_
  rintro ⟨i, hi⟩
  simp only [evX, reduceIte, reduceCtorEq, Nat.reduceLT, Nat.reduceAdd, Nat.reduceEqDiff, Nat.reduceBEq, Nat.reduceLeDiff, Nat.reduceMul, ttL, tyL, ht]
  ((first | refine SelF.byN (fun hb => ?_) (fun hb => ?_) | refine SelF.by (fun hb => ?_) (fun hb => ?_)) <;> simp only [hb, evX, reduceIte, reduceCtorEq, Nat.reduceLT, Nat.reduceAdd, Nat.reduceEqDiff, Nat.reduceBEq, Nat.reduceLeDiff, Nat.reduceMul, ttL, tyL, ht])
  · simp only [decide_eq_true_eq] at hb
    have hlt : i < l.length := by omega
    have kp := kl _ (List.getElem_mem hlt)
    have hov : Ok Tryz.prog 53 [namedsA [], namedA l[i]] (.mix [namedA l[i]] 36 5 [] [boolA true]) := ok_Over [] l[i] (by simp) (by simp) kp
    refine IdxR.nat hE 9000 hlt rfl ?_
    simp only [evX, reduceIte, reduceCtorEq, Nat.reduceLT, Nat.reduceAdd, Nat.reduceEqDiff, Nat.reduceBEq, Nat.reduceLeDiff, Nat.reduceMul, ttL, tyL, ht]
    (refine StG.by hE ht 9000 rfl ?_ <;> simp only [evX, reduceIte, reduceCtorEq, Nat.reduceLT, Nat.reduceAdd, Nat.reduceEqDiff, Nat.reduceBEq, Nat.reduceLeDiff, Nat.reduceMul, ttL, tyL, ht])
    (refine CallG.ok hE 9000 (hP ▸ hov) rfl rfl ?_ <;> simp only [evX, reduceIte, reduceCtorEq, Nat.reduceLT, Nat.reduceAdd, Nat.reduceEqDiff, Nat.reduceBEq, Nat.reduceLeDiff, Nat.reduceMul, ttL, tyL, ht])
    simp only [retE, evX, reduceIte, reduceCtorEq, Nat.reduceLT, Nat.reduceAdd, Nat.reduceEqDiff, Nat.reduceBEq, Nat.reduceLeDiff, Nat.reduceMul, ttL, tyL, ht]
    (refine StG.by hE ht 9000 rfl ?_ <;> simp only [evX, reduceIte, reduceCtorEq, Nat.reduceLT, Nat.reduceAdd, Nat.reduceEqDiff, Nat.reduceBEq, Nat.reduceLeDiff, Nat.reduceMul, ttL, tyL, ht])
    refine AppG.by hE 9000 rfl rfl (by simp [rowLen]) (by simp; omega) ?_
    simp only [evX, reduceIte, reduceCtorEq, Nat.reduceLT, Nat.reduceAdd, Nat.reduceEqDiff, Nat.reduceBEq, Nat.reduceLeDiff, Nat.reduceMul, ttL, tyL, ht]
    rw [take_named hlt]
    refine ⟨⟨i + 1, by omega⟩, [5], Wk.of rfl (by simp) (by rw [h0]; simp [fixB]) (by simp [wkT, okA, wkP, cloE, Vam.look, sig, wrapN i (by omega)]) (by simp [wkBs, setBx, nthB, wkBx, wkL, okA, wkP, cloE, sig, wrapN i (by omega)]) (by simp) (by simp), by simp only; omega⟩
  · have hi' : i = l.length := by simp at hb; omega
    subst hi'
    exact RetQ.ownV (.inr rfl) rfl rfl rfl (by rw [List.take_length])
theorem ok_Part (l : List Named) (ids : List Qm.Id) (bl : l.length * 80 ≤ 140737488355328) (kl : ∀ p ∈ l, okN p) (hi : ids.length < 9223372036854775807) : Ok Tryz.prog 15 [namedsA l, idsA ids] (.v (.tup [namedsA (partN l ids).1, namedsA (partN l ids).2])) := by
  (refine Ok.code hT hM (fn := Tryz.f15) rfl rfl rfl _ _ rfl rfl (Nat.le_of_ble_eq_true rfl) fun E hE hP ht h0 hrd => ?_; refine Go.run hE 9000 ?_; simp only [Tryz.f15, evX, reduceIte, reduceCtorEq, Nat.reduceLT, Nat.reduceAdd, Nat.reduceEqDiff, Nat.reduceBEq, Nat.reduceLeDiff, Nat.reduceMul, ttL, tyL, ht])
  refine CloG.by hE 9000 ?_
  simp only [evX, reduceIte, reduceCtorEq, Nat.reduceLT, Nat.reduceAdd, Nat.reduceEqDiff, Nat.reduceBEq, Nat.reduceLeDiff, Nat.reduceMul, ttL, tyL, ht]
  (refine CallG.ok hE 9000 (hP ▸ ok_bubbleOwn l bl kl) rfl rfl ?_ <;> simp only [evX, reduceIte, reduceCtorEq, Nat.reduceLT, Nat.reduceAdd, Nat.reduceEqDiff, Nat.reduceBEq, Nat.reduceLeDiff, Nat.reduceMul, ttL, tyL, ht])
  refine Go.nlC 0 0 36 5 rfl rfl ?_
  refine Go.nlC 0 1 36 5 rfl rfl ?_
  refine Loop.by hE (ι := {i : Nat // i ≤ l.length}) (fun i => ⟨37, [(1, idsA ids), (6, .ptr 0 0), (7, .clo 33 [.ptr 0 0] []), (15, namedsA l), (16, intA l.length), (17, intA (i.1 : Int))], [.cells [.own 1, .own 2], .rows 36 5 (namedsC (partN (l.take i.1) ids).1), .rows 36 5 (namedsC (partN (l.take i.1) ids).2)], [], [2]⟩) (fun i => l.length - i.1) ⟨0, by simp⟩ 9000 ⟨[0, 1, 2], Wk.of rfl (by simp) (by rw [h0]; simp [fixB]) (by simp [wkT, okA, wkP, cloE, Vam.look, sig, partN]) (by simp [wkBs, setBx, nthB, wkBx, wkL, okA, wkP, cloE, sig, partN]) (by simp) (by simp)⟩ (by simp [h0]) ?_
  rintro ⟨i, hi⟩
  have hi : i ≤ l.length := hi
  obtain ⟨k1, k2⟩ := part_ok (ids := ids) (l := l.take i) fun p hp => kl p (List.mem_of_mem_take hp)
  have kle := part_len (ids := ids) (l.take i)
  rw [List.length_take, Nat.min_eq_left hi] at kle
  have hnx := fun h => part_take (ids := ids) (l := l) (i := i) h
  generalize hpt : partN (l.take i) ids = s at k1 k2 kle hnx
  obtain ⟨st, be⟩ := s
  simp only at k1 k2 kle
  simp only [evX, reduceIte, reduceCtorEq, Nat.reduceLT, Nat.reduceAdd, Nat.reduceEqDiff, Nat.reduceBEq, Nat.reduceLeDiff, Nat.reduceMul, ttL, tyL, ht]
  ((first | refine SelF.byN (fun hb => ?_) (fun hb => ?_) | refine SelF.by (fun hb => ?_) (fun hb => ?_)) <;> simp only [hb, evX, reduceIte, reduceCtorEq, Nat.reduceLT, Nat.reduceAdd, Nat.reduceEqDiff, Nat.reduceBEq, Nat.reduceLeDiff, Nat.reduceMul, ttL, tyL, ht])
  · simp only [decide_eq_true_eq] at hb
    have hlt : i < l.length := by omega
    have hnx := hnx hlt
    have kp := kl _ (List.getElem_mem hlt)
    refine IdxR.nat hE 9000 hlt rfl ?_
    simp only [evX, reduceIte, reduceCtorEq, Nat.reduceLT, Nat.reduceAdd, Nat.reduceEqDiff, Nat.reduceBEq, Nat.reduceLeDiff, Nat.reduceMul, ttL, tyL, ht]
    (refine StG.by hE ht 9000 rfl ?_ <;> simp only [evX, reduceIte, reduceCtorEq, Nat.reduceLT, Nat.reduceAdd, Nat.reduceEqDiff, Nat.reduceBEq, Nat.reduceLeDiff, Nat.reduceMul, ttL, tyL, ht])
    (refine CallG.ok hE 9000 (hP ▸ ok_ContainsId ids l[i].id (by omega)) rfl rfl ?_ <;> simp only [evX, reduceIte, reduceCtorEq, Nat.reduceLT, Nat.reduceAdd, Nat.reduceEqDiff, Nat.reduceBEq, Nat.reduceLeDiff, Nat.reduceMul, ttL, tyL, ht])
    have hov := ok_Over be l[i] (by omega) k2 kp
    have hdef : (ids.any fun y => idEq y l[i].id) = inIds ids l[i] := rfl
    rw [hdef]
    cases ho : overN be l[i] with
    | none =>
      rw [ho] at hov
      have hst : partN (l.take (i + 1)) ids = (st, be ++ [l[i]]) := by rw [hnx, partS, ho]; simp
      cases hin : inIds ids l[i]
      · refine CallI.inlD hE hP ht (fn := Tryz.f33) (by kernel_rfl) rfl rfl rfl _ _ rfl rfl _ rfl (Nat.le_of_ble_eq_true rfl) fun E' hE' hP' ht' h0' hrd' => ?_
        have h0' : E'.n0 = 4 := by rw [h0']; rfl
        refine Go.run hE' 9000 ?_
        simp only [Tryz.f33, evX, reduceIte, reduceCtorEq, Nat.reduceLT, Nat.reduceAdd, Nat.reduceEqDiff, Nat.reduceBEq, Nat.reduceLeDiff, Nat.reduceMul, ttL, tyL, ht']
        refine CallG.ok hE' 9000 (hP' ▸ hov) rfl rfl ?_
        simp only [retE, evX, reduceIte, reduceCtorEq, Nat.reduceLT, Nat.reduceAdd, Nat.reduceEqDiff, Nat.reduceBEq, Nat.reduceLeDiff, Nat.reduceMul, ttL, tyL, ht']
        refine StG.byX hE' ht' 9000 rfl rfl ?_
        simp only [evX, reduceIte, reduceCtorEq, Nat.reduceLT, Nat.reduceAdd, Nat.reduceEqDiff, Nat.reduceBEq, Nat.reduceLeDiff, Nat.reduceMul, ttL, tyL, ht']
        refine ⟨by kernel_rfl, ?_⟩
        refine AppG.by hE' 9000 rfl rfl (by simp [rowLen]) (by simp; omega) ?_
        simp only [evX, reduceIte, reduceCtorEq, Nat.reduceLT, Nat.reduceAdd, Nat.reduceEqDiff, Nat.reduceBEq, Nat.reduceLeDiff, Nat.reduceMul, ttL, tyL, ht']
        refine StG.byD hE' ht' 9000 rfl (by kernel_rfl) ?_
        simp only [evX, reduceIte, reduceCtorEq, Nat.reduceLT, Nat.reduceAdd, Nat.reduceEqDiff, Nat.reduceBEq, Nat.reduceLeDiff, Nat.reduceMul, ttL, tyL, ht']
        refine InlQ.by hE 9000 (.inr rfl) rfl ?_
        simp only [evX, reduceIte, reduceCtorEq, Nat.reduceLT, Nat.reduceAdd, Nat.reduceEqDiff, Nat.reduceBEq, Nat.reduceLeDiff, Nat.reduceMul, ttL, tyL, ht]
        refine ⟨⟨i + 1, by omega⟩, [0, 1, 8], Wk.of rfl (by simp) (by rw [h0]; simp [fixB]) (by simp [wkT, okA, wkP, cloE, Vam.look, sig, wrapN i (by omega), hst]) (by simp [wkBs, setBx, nthB, wkBx, wkL, okA, wkP, cloE, sig, wrapN i (by omega), hst]) (by simp) (by simp), by simp only; omega⟩
      · refine CallI.inlD hE hP ht (fn := Tryz.f33) (by kernel_rfl) rfl rfl rfl _ _ rfl rfl _ rfl (Nat.le_of_ble_eq_true rfl) fun E' hE' hP' ht' h0' hrd' => ?_
        have h0' : E'.n0 = 4 := by rw [h0']; rfl
        refine Go.run hE' 9000 ?_
        simp only [Tryz.f33, evX, reduceIte, reduceCtorEq, Nat.reduceLT, Nat.reduceAdd, Nat.reduceEqDiff, Nat.reduceBEq, Nat.reduceLeDiff, Nat.reduceMul, ttL, tyL, ht']
        refine CallG.ok hE' 9000 (hP' ▸ hov) rfl rfl ?_
        simp only [retE, evX, reduceIte, reduceCtorEq, Nat.reduceLT, Nat.reduceAdd, Nat.reduceEqDiff, Nat.reduceBEq, Nat.reduceLeDiff, Nat.reduceMul, ttL, tyL, ht']
        refine StG.byX hE' ht' 9000 rfl rfl ?_
        simp only [evX, reduceIte, reduceCtorEq, Nat.reduceLT, Nat.reduceAdd, Nat.reduceEqDiff, Nat.reduceBEq, Nat.reduceLeDiff, Nat.reduceMul, ttL, tyL, ht']
        refine ⟨by kernel_rfl, ?_⟩
        refine AppG.by hE' 9000 rfl rfl (by simp [rowLen]) (by simp; omega) ?_
        simp only [evX, reduceIte, reduceCtorEq, Nat.reduceLT, Nat.reduceAdd, Nat.reduceEqDiff, Nat.reduceBEq, Nat.reduceLeDiff, Nat.reduceMul, ttL, tyL, ht']
        refine StG.byD hE' ht' 9000 rfl (by kernel_rfl) ?_
        simp only [evX, reduceIte, reduceCtorEq, Nat.reduceLT, Nat.reduceAdd, Nat.reduceEqDiff, Nat.reduceBEq, Nat.reduceLeDiff, Nat.reduceMul, ttL, tyL, ht']
        refine InlQ.by hE 9000 (.inr rfl) rfl ?_
        simp only [evX, reduceIte, reduceCtorEq, Nat.reduceLT, Nat.reduceAdd, Nat.reduceEqDiff, Nat.reduceBEq, Nat.reduceLeDiff, Nat.reduceMul, ttL, tyL, ht]
        refine ⟨⟨i + 1, by omega⟩, [0, 1, 8], Wk.of rfl (by simp) (by rw [h0]; simp [fixB]) (by simp [wkT, okA, wkP, cloE, Vam.look, sig, wrapN i (by omega), hst]) (by simp [wkBs, setBx, nthB, wkBx, wkL, okA, wkP, cloE, sig, wrapN i (by omega), hst]) (by simp) (by simp), by simp only; omega⟩
    | some r =>
      obtain ⟨y, m⟩ := r
      rw [ho] at hov
      cases hin : inIds ids l[i]
      · refine CallI.inlD hE hP ht (fn := Tryz.f33) (by kernel_rfl) rfl rfl rfl _ _ rfl rfl _ rfl (Nat.le_of_ble_eq_true rfl) fun E' hE' hP' ht' h0' hrd' => ?_
        have h0' : E'.n0 = 4 := by rw [h0']; rfl
        refine Go.run hE' 9000 ?_
        simp only [Tryz.f33, evX, reduceIte, reduceCtorEq, Nat.reduceLT, Nat.reduceAdd, Nat.reduceEqDiff, Nat.reduceBEq, Nat.reduceLeDiff, Nat.reduceMul, ttL, tyL, ht']
        refine CallG.ok hE' 9000 (hP' ▸ hov) rfl rfl ?_
        simp only [retE, evX, reduceIte, reduceCtorEq, Nat.reduceLT, Nat.reduceAdd, Nat.reduceEqDiff, Nat.reduceBEq, Nat.reduceLeDiff, Nat.reduceMul, ttL, tyL, ht']
        refine StG.byX hE' ht' 9000 rfl rfl ?_
        simp only [evX, reduceIte, reduceCtorEq, Nat.reduceLT, Nat.reduceAdd, Nat.reduceEqDiff, Nat.reduceBEq, Nat.reduceLeDiff, Nat.reduceMul, ttL, tyL, ht']
        refine ⟨by kernel_rfl, ?_⟩
        have hst : partN (l.take (i + 1)) ids = (st ++ [y], m) := by rw [hnx, partS, ho]; simp [hin]
        refine AppG.by hE' 9000 rfl rfl (by simp [rowLen]) (by simp; omega) ?_
        simp only [evX, reduceIte, reduceCtorEq, Nat.reduceLT, Nat.reduceAdd, Nat.reduceEqDiff, Nat.reduceBEq, Nat.reduceLeDiff, Nat.reduceMul, ttL, tyL, ht']
        refine StG.byXW hE' ht' 9000 rfl rfl rfl rfl rfl rfl rfl rfl rfl ?_
        simp only [evX, reduceIte, reduceCtorEq, Nat.reduceLT, Nat.reduceAdd, Nat.reduceEqDiff, Nat.reduceBEq, Nat.reduceLeDiff, Nat.reduceMul, ttL, tyL, ht']
        refine StG.byD hE' ht' 9000 rfl (by kernel_rfl) ?_
        simp only [evX, reduceIte, reduceCtorEq, Nat.reduceLT, Nat.reduceAdd, Nat.reduceEqDiff, Nat.reduceBEq, Nat.reduceLeDiff, Nat.reduceMul, ttL, tyL, ht']
        refine InlQ.by hE 9000 (.inl rfl) rfl ?_
        simp only [evX, reduceIte, reduceCtorEq, Nat.reduceLT, Nat.reduceAdd, Nat.reduceEqDiff, Nat.reduceBEq, Nat.reduceLeDiff, Nat.reduceMul, ttL, tyL, ht]
        refine ⟨⟨i + 1, by omega⟩, [0, 8, 5], Wk.of rfl (by simp) (by rw [h0]; simp [fixB]) (by simp [wkT, okA, wkP, cloE, Vam.look, sig, wrapN i (by omega), hst]) (by simp [wkBs, setBx, nthB, wkBx, wkL, okA, wkP, cloE, sig, wrapN i (by omega), hst]) (by simp) (by simp), by simp only; omega⟩
      · have hst : partN (l.take (i + 1)) ids = (st, be ++ [l[i]]) := by rw [hnx, partS, ho]; simp [hin]
        refine CallI.inlD hE hP ht (fn := Tryz.f33) (by kernel_rfl) rfl rfl rfl _ _ rfl rfl _ rfl (Nat.le_of_ble_eq_true rfl) fun E' hE' hP' ht' h0' hrd' => ?_
        have h0' : E'.n0 = 4 := by rw [h0']; rfl
        refine Go.run hE' 9000 ?_
        simp only [Tryz.f33, evX, reduceIte, reduceCtorEq, Nat.reduceLT, Nat.reduceAdd, Nat.reduceEqDiff, Nat.reduceBEq, Nat.reduceLeDiff, Nat.reduceMul, ttL, tyL, ht']
        refine CallG.ok hE' 9000 (hP' ▸ hov) rfl rfl ?_
        simp only [retE, evX, reduceIte, reduceCtorEq, Nat.reduceLT, Nat.reduceAdd, Nat.reduceEqDiff, Nat.reduceBEq, Nat.reduceLeDiff, Nat.reduceMul, ttL, tyL, ht']
        refine StG.byX hE' ht' 9000 rfl rfl ?_
        simp only [evX, reduceIte, reduceCtorEq, Nat.reduceLT, Nat.reduceAdd, Nat.reduceEqDiff, Nat.reduceBEq, Nat.reduceLeDiff, Nat.reduceMul, ttL, tyL, ht']
        refine ⟨by kernel_rfl, ?_⟩
        refine AppG.by hE' 9000 rfl rfl (by simp [rowLen]) (by simp; omega) ?_
        simp only [evX, reduceIte, reduceCtorEq, Nat.reduceLT, Nat.reduceAdd, Nat.reduceEqDiff, Nat.reduceBEq, Nat.reduceLeDiff, Nat.reduceMul, ttL, tyL, ht']
        refine StG.byD hE' ht' 9000 rfl (by kernel_rfl) ?_
        simp only [evX, reduceIte, reduceCtorEq, Nat.reduceLT, Nat.reduceAdd, Nat.reduceEqDiff, Nat.reduceBEq, Nat.reduceLeDiff, Nat.reduceMul, ttL, tyL, ht']
        refine InlQ.by hE 9000 (.inr rfl) rfl ?_
        simp only [evX, reduceIte, reduceCtorEq, Nat.reduceLT, Nat.reduceAdd, Nat.reduceEqDiff, Nat.reduceBEq, Nat.reduceLeDiff, Nat.reduceMul, ttL, tyL, ht]
        refine ⟨⟨i + 1, by omega⟩, [0, 1, 8], Wk.of rfl (by simp) (by rw [h0]; simp [fixB]) (by simp [wkT, okA, wkP, cloE, Vam.look, sig, wrapN i (by omega), hst]) (by simp [wkBs, setBx, nthB, wkBx, wkL, okA, wkP, cloE, sig, wrapN i (by omega), hst]) (by simp) (by simp), by simp only; omega⟩
  · refine ⟨by kernel_rfl, ?_⟩
    have hi' : i = l.length := by simp at hb; omega
    subst hi'
    rw [List.take_length] at hpt
    rw [hpt]
    exact RetQ.two (.inr rfl) rfl rfl rfl rfl
end Go.Proofs.YtmfbcgheffdghaaGreat

/- Ids of patches; the document's way. -/
namespace Go.Proofs.YtmfbcgheffdghaaGreat
open Go.Vam Go.Qm
set_option linter.unusedVariables false
set_option linter.unusedSimpArgs false
set_option maxRecDepth 8000
set_option maxHeartbeats 2000000

theorem take_ids {l : List Named} {i : Nat} (h : i < l.length) : idsC (idsN (l.take i)) ++ [[.sc (.int .i64 l[i].id.who), .sc (.int .i64 l[i].id.no)]] = idsC (idsN (l.take (i + 1))) := by
  rw [List.take_add_one, List.getElem?_eq_getElem h, idsN, idsN, idsC, idsC, List.map_append, List.map_append]
  rfl
theorem ok_Ids (l : List Named) (bl : l.length * 80 ≤ 140737488355328) : Ok Tryz.prog 21 [namedsA l] (.own 33 2 (idsC (idsN l))) := by
  (refine Ok.code hT hM (fn := Tryz.f21) rfl rfl rfl _ _ rfl rfl (Nat.le_of_ble_eq_true rfl) fun E hE hP ht h0 hrd => ?_; refine Go.run hE 9000 ?_; simp only [Tryz.f21, evX, reduceIte, reduceCtorEq, Nat.reduceLT, Nat.reduceAdd, Nat.reduceEqDiff, Nat.reduceBEq, Nat.reduceLeDiff, Nat.reduceMul, ttL, tyL, ht])
  refine Go.nilT 3 33 2 rfl ?_
  refine Loop.by hE (ι := {i : Nat // i ≤ l.length}) (fun i => ⟨19, [(3, .own 0), (6, namedsA l), (7, intA l.length), (8, intA (i.1 : Int))], [.rows 33 2 (idsC (idsN (l.take i.1)))], [], []⟩) (fun i => l.length - i.1) ⟨0, by simp⟩ 9000 ⟨[0], Wk.of rfl (by simp) (by rw [h0]; simp [fixB]) (by simp [wkT, okA, wkP, cloE, Vam.look, sig, idsN]) (by simp [wkBs, setBx, nthB, wkBx, wkL, okA, wkP, cloE, sig, idsN]) (by simp) (by simp)⟩ (by simp [h0]) ?_
  rintro ⟨i, hi⟩
  simp only [evX, reduceIte, reduceCtorEq, Nat.reduceLT, Nat.reduceAdd, Nat.reduceEqDiff, Nat.reduceBEq, Nat.reduceLeDiff, Nat.reduceMul, ttL, tyL, ht]
  ((first | refine SelF.byN (fun hb => ?_) (fun hb => ?_) | refine SelF.by (fun hb => ?_) (fun hb => ?_)) <;> simp only [hb, evX, reduceIte, reduceCtorEq, Nat.reduceLT, Nat.reduceAdd, Nat.reduceEqDiff, Nat.reduceBEq, Nat.reduceLeDiff, Nat.reduceMul, ttL, tyL, ht])
  · simp only [decide_eq_true_eq] at hb
    have hlt : i < l.length := by omega
    refine IdxR.nat hE 9000 hlt rfl ?_
    simp only [evX, reduceIte, reduceCtorEq, Nat.reduceLT, Nat.reduceAdd, Nat.reduceEqDiff, Nat.reduceBEq, Nat.reduceLeDiff, Nat.reduceMul, ttL, tyL, ht]
    (refine StG.by hE ht 9000 rfl ?_ <;> simp only [evX, reduceIte, reduceCtorEq, Nat.reduceLT, Nat.reduceAdd, Nat.reduceEqDiff, Nat.reduceBEq, Nat.reduceLeDiff, Nat.reduceMul, ttL, tyL, ht])
    refine AppG.by hE 9000 rfl rfl (by simp [rowLen]) (by simp [idsN]; omega) ?_
    simp only [evX, reduceIte, reduceCtorEq, Nat.reduceLT, Nat.reduceAdd, Nat.reduceEqDiff, Nat.reduceBEq, Nat.reduceLeDiff, Nat.reduceMul, ttL, tyL, ht]
    rw [take_ids hlt]
    refine ⟨⟨i + 1, by omega⟩, [3], Wk.of rfl (by simp) (by rw [h0]; simp [fixB]) (by simp [wkT, okA, wkP, cloE, Vam.look, sig, wrapN i (by omega)]) (by simp [wkBs, setBx, nthB, wkBx, wkL, okA, wkP, cloE, sig, wrapN i (by omega)]) (by simp) (by simp), by simp only; omega⟩
  · have hi' : i = l.length := by simp at hb; omega
    subst hi'
    rw [List.take_length]
    exact RetQ.own (.inr rfl) rfl rfl rfl rfl
theorem ok_ref16In (l : List Qm.Id) (x : Qm.Id) (hl : l.length < 9223372036854775807) : Ok Tryz.prog 56 [idsA l, idA x] (.v (boolA (l.any fun y => idEq y x))) := by
  (refine Ok.code hT hM (fn := Tryz.f56) rfl rfl rfl _ _ rfl rfl (Nat.le_of_ble_eq_true rfl) fun E hE hP ht h0 hrd => ?_; refine Go.run hE 9000 ?_; simp only [Tryz.f56, evX, reduceIte, reduceCtorEq, Nat.reduceLT, Nat.reduceAdd, Nat.reduceEqDiff, Nat.reduceBEq, Nat.reduceLeDiff, Nat.reduceMul, ttL, tyL, ht])
  refine Loop.by hE (ι := {i : Nat // i ≤ l.length ∧ (l.take i).any (fun y => idEq y x) = false}) (fun i => ⟨18, [(0, idsA l), (3, .ptr 0 0), (5, intA i.1)], [.cells ((idC x).map .c)], [], []⟩) (fun i => l.length - i.1) ⟨0, by simp⟩ 9000 ⟨[0], Wk.of rfl (by simp) (by rw [h0]; simp [fixB]) (by simp [wkT, okA, wkP, cloE, Vam.look, sig, ]) (by simp [wkBs, setBx, nthB, wkBx, wkL, okA, wkP, cloE, sig, ]) (by simp) (by simp)⟩ (by simp [h0]) ?_
  rintro ⟨i, hi, hall⟩
  simp only [evX, reduceIte, reduceCtorEq, Nat.reduceLT, Nat.reduceAdd, Nat.reduceEqDiff, Nat.reduceBEq, Nat.reduceLeDiff, Nat.reduceMul, ttL, tyL, ht]
  ((first | refine SelF.byN (fun hb => ?_) (fun hb => ?_) | refine SelF.by (fun hb => ?_) (fun hb => ?_)) <;> simp only [hb, evX, reduceIte, reduceCtorEq, Nat.reduceLT, Nat.reduceAdd, Nat.reduceEqDiff, Nat.reduceBEq, Nat.reduceLeDiff, Nat.reduceMul, ttL, tyL, ht])
  · simp only [decide_eq_true_eq] at hb
    have hlt : i < l.length := by omega
    refine IdxR.nat hE 9000 hlt rfl ?_
    simp only [evX, reduceIte, reduceCtorEq, Nat.reduceLT, Nat.reduceAdd, Nat.reduceEqDiff, Nat.reduceBEq, Nat.reduceLeDiff, Nat.reduceMul, ttL, tyL, ht]
    (refine HardOp.eqI hE 9000 rfl (hP ▸ eqT) rfl ?_ <;> simp only [evX, reduceIte, reduceCtorEq, Nat.reduceLT, Nat.reduceAdd, Nat.reduceEqDiff, Nat.reduceBEq, Nat.reduceLeDiff, Nat.reduceMul, ttL, tyL, ht])
    refine ⟨by kernel_rfl, ?_⟩
    have hc : (l[i].who == x.who && l[i].no == x.no) = idEq l[i] x := rfl
    simp only [hc, evX, reduceIte, reduceCtorEq, Nat.reduceLT, Nat.reduceAdd, Nat.reduceEqDiff, Nat.reduceBEq, Nat.reduceLeDiff, Nat.reduceMul, ttL, tyL, ht]
    ((first | refine SelF.byN (fun hb => ?_) (fun hb => ?_) | refine SelF.by (fun hb => ?_) (fun hb => ?_)) <;> simp only [hb, evX, reduceIte, reduceCtorEq, Nat.reduceLT, Nat.reduceAdd, Nat.reduceEqDiff, Nat.reduceBEq, Nat.reduceLeDiff, Nat.reduceMul, ttL, tyL, ht])
    · exact RetQ.bool (.inr rfl) rfl (List.any_eq_true.2 ⟨l[i], List.getElem_mem hlt, hb⟩).symm
    · refine ⟨⟨i + 1, by omega, by rw [any_take hlt, hall, hb]; rfl⟩, [0], Wk.of rfl (by simp) (by rw [h0]; simp [fixB]) (by simp [wkT, okA, wkP, cloE, Vam.look, sig, wrapN i (by omega)]) (by simp [wkBs, setBx, nthB, wkBx, wkL, okA, wkP, cloE, sig, wrapN i (by omega)]) (by simp) (by simp), by simp only; omega⟩
  · have hi' : i = l.length := by simp at hb; omega
    subst hi'
    rw [List.take_length] at hall
    exact RetQ.bool (.inr rfl) rfl hall.symm
theorem ok_ref16Same (a b : List Qm.Id) (hl : a.length < 9223372036854775807) : Ok Tryz.prog 19 [idsA a, idsA b] (.v (boolA (all2 idEq a b))) := by
  (refine Ok.code hT hM (fn := Tryz.f19) rfl rfl rfl _ _ rfl rfl (Nat.le_of_ble_eq_true rfl) fun E hE hP ht h0 hrd => ?_; refine Go.run hE 9000 ?_; simp only [Tryz.f19, evX, reduceIte, reduceCtorEq, Nat.reduceLT, Nat.reduceAdd, Nat.reduceEqDiff, Nat.reduceBEq, Nat.reduceLeDiff, Nat.reduceMul, ttL, tyL, ht])
  ((first | refine SelF.byN (fun hb => ?_) (fun hb => ?_) | refine SelF.by (fun hb => ?_) (fun hb => ?_)) <;> simp only [hb, evX, reduceIte, reduceCtorEq, Nat.reduceLT, Nat.reduceAdd, Nat.reduceEqDiff, Nat.reduceBEq, Nat.reduceLeDiff, Nat.reduceMul, ttL, tyL, ht])
  · exact RetQ.bool (.inr rfl) rfl (all2_ne (by simp at hb; omega)).symm
  · have hlen : a.length = b.length := by simp at hb; omega
    refine Loop.by hE (ι := {i : Nat // i ≤ a.length ∧ all2 idEq (a.take i) (b.take i) = true}) (fun i => ⟨26, [(0, idsA a), (1, idsA b), (5, intA i.1)], [], [], []⟩) (fun i => a.length - i.1) ⟨0, by simp [all2]⟩ 9000 ⟨[], Wk.of rfl (by simp) (by rw [h0]; trivial) (by simp [wkT, okA, wkP, cloE, Vam.look]) (by simp [wkBs]) (by simp) (by simp)⟩ (by simp [h0]) ?_
    rintro ⟨i, hi, hall⟩
    simp only [evX, reduceIte, reduceCtorEq, Nat.reduceLT, Nat.reduceAdd, Nat.reduceEqDiff, Nat.reduceBEq, Nat.reduceLeDiff, Nat.reduceMul, ttL, tyL, ht]
    ((first | refine SelF.byN (fun hb => ?_) (fun hb => ?_) | refine SelF.by (fun hb => ?_) (fun hb => ?_)) <;> simp only [hb, evX, reduceIte, reduceCtorEq, Nat.reduceLT, Nat.reduceAdd, Nat.reduceEqDiff, Nat.reduceBEq, Nat.reduceLeDiff, Nat.reduceMul, ttL, tyL, ht])
    · simp only [decide_eq_true_eq] at hb
      have hlt : i < a.length := by omega
      have hlt2 : i < b.length := by omega
      refine IdxR.nat hE 9000 hlt rfl ?_
      simp only [evX, reduceIte, reduceCtorEq, Nat.reduceLT, Nat.reduceAdd, Nat.reduceEqDiff, Nat.reduceBEq, Nat.reduceLeDiff, Nat.reduceMul, ttL, tyL, ht]
      refine IdxR.nat hE 9000 hlt2 rfl ?_
      simp only [evX, reduceIte, reduceCtorEq, Nat.reduceLT, Nat.reduceAdd, Nat.reduceEqDiff, Nat.reduceBEq, Nat.reduceLeDiff, Nat.reduceMul, ttL, tyL, ht]
      (refine HardOp.eqI hE 9000 rfl (hP ▸ eqT) rfl ?_ <;> simp only [evX, reduceIte, reduceCtorEq, Nat.reduceLT, Nat.reduceAdd, Nat.reduceEqDiff, Nat.reduceBEq, Nat.reduceLeDiff, Nat.reduceMul, ttL, tyL, ht])
      refine ⟨by kernel_rfl, ?_⟩
      have hc : (a[i].who == b[i].who && a[i].no == b[i].no) = idEq a[i] b[i] := rfl
      simp only [hc, evX, reduceIte, reduceCtorEq, Nat.reduceLT, Nat.reduceAdd, Nat.reduceEqDiff, Nat.reduceBEq, Nat.reduceLeDiff, Nat.reduceMul, ttL, tyL, ht]
      ((first | refine SelF.byN (fun hb => ?_) (fun hb => ?_) | refine SelF.by (fun hb => ?_) (fun hb => ?_)) <;> simp only [hb, evX, reduceIte, reduceCtorEq, Nat.reduceLT, Nat.reduceAdd, Nat.reduceEqDiff, Nat.reduceBEq, Nat.reduceLeDiff, Nat.reduceMul, ttL, tyL, ht])
      · exact RetQ.bool (.inr rfl) rfl (all2_at hlt hlt2 (f := idEq) (by simpa using hb)).symm
      · refine ⟨⟨i + 1, by omega, by rw [all2_take hlt hlt2, hall]; simpa using hb⟩, [], Wk.of rfl (by simp) (by rw [h0]; trivial) (by simp [wkT, okA, wkP, cloE, Vam.look, wrapN i (by omega)]) (by simp [wkBs]) (by simp) (by simp), by simp only; omega⟩
    · exact RetQ.bool (.inr rfl) rfl (all2_full hi (by simpa using hb) hlen hall).symm
end Go.Proofs.YtmfbcgheffdghaaGreat
