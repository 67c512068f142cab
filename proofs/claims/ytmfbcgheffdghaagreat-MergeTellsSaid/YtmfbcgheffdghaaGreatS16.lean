/- The program's functions, walked (part 16). -/
import Derived.Test.YtmfbcgheffdghaaGreatS14
import Derived.Test.YtmfbcgheffdghaaGreatG12
import Derived.Test.YtmfbcgheffdghaaGreatG11
/- What stays, as a list of one's own. -/
namespace Go.Proofs.YtmfbcgheffdghaaGreat
open Go.Vam Go.Qm
set_option linter.unusedVariables false
set_option linter.unusedSimpArgs false
set_option maxRecDepth 8000
set_option maxHeartbeats 4000000

theorem ok_PartO (l : List Named) (ids : List Qm.Id) (bl : l.length * 80 ≤ 140737488355328) (kl : ∀ p ∈ l, okN p) (hi : ids.length < 9223372036854775807) : Ok Tryz.prog 15 [namedsA l, idsA ids] (.mix [] 36 5 (namedsC (partN l ids).1) [namedsA (partN l ids).2]) := by
  (refine Ok.code hT hM (fn := Tryz.f15) rfl rfl rfl _ _ rfl rfl (Nat.le_of_ble_eq_true rfl) fun E hE hP ht h0 hrd => ?_; refine Go.run hE 9000 ?_; simp only [Tryz.f15, evX, reduceIte, reduceCtorEq, Nat.reduceLT, Nat.reduceAdd, Nat.reduceEqDiff, Nat.reduceBEq, Nat.reduceLeDiff, Nat.reduceMul, ttL, tyL, ht])
  refine CloG.by hE 9000 ?_
  simp only [evX, reduceIte, reduceCtorEq, Nat.reduceLT, Nat.reduceAdd, Nat.reduceEqDiff, Nat.reduceBEq, Nat.reduceLeDiff, Nat.reduceMul, ttL, tyL, ht]
  (refine CallG.ok hE 9000 (hP ▸ ok_bubbleOwn l bl kl) rfl rfl ?_ <;> simp only [evX, reduceIte, reduceCtorEq, Nat.reduceLT, Nat.reduceAdd, Nat.reduceEqDiff, Nat.reduceBEq, Nat.reduceLeDiff, Nat.reduceMul, ttL, tyL, ht])
  refine Go.nlC 0 0 36 5 rfl rfl ?_
  refine Go.nlC 0 1 36 5 rfl rfl ?_
  refine Loop.by hE (ι := {i : Nat // i ≤ l.length}) (fun i => ⟨37, [(1, idsA ids), (6, .ptr 0 0), (7, .clo 33 [.ptr 0 0] []), (15, namedsA l), (16, intA l.length), (17, intA (i.1 : Int))], [.cells [.own 1, .own 2], .rows 36 5 (namedsC (partN (l.take i.1) ids).1), .rows 36 5 (namedsC (partN (l.take i.1) ids).2)], [], [2]⟩) (fun i => l.length - i.1) ⟨0, by simp⟩ 9000 ⟨[0, 1, 2], Wk.of rfl (by simp) (by rw [h0]; simp [fixB]) (by simp [wkT, okA, wkP, cloE, Vam.look, sig, partN]) (by simp [wkBs, setBx, nthB, wkBx, wkL, okA, wkP, cloE, sig, partN]) (by simp) (by simp)⟩ (by simp [h0]) ?_
  rintro ⟨i, hi⟩
  have hi : i ≤ l.length := hi
  obtain ⟨k1, k2⟩ := part_ok (ids := ids) (l := l.take i) fun p hp => kl p (List.mem_of_mem_take hp)
  have kle := part_len (ids := ids) (l.take i)
  rw [List.length_take, Nat.min_eq_left hi] at kle
  have hnx := fun h => part_take (ids := ids) (l := l) (i := i) h
  generalize hpt : partN (l.take i) ids = s at k1 k2 kle hnx
  obtain ⟨st, be⟩ := s
  simp only at k1 k2 kle
  simp only [evX, reduceIte, reduceCtorEq, Nat.reduceLT, Nat.reduceAdd, Nat.reduceEqDiff, Nat.reduceBEq, Nat.reduceLeDiff, Nat.reduceMul, ttL, tyL, ht]
  ((first | refine SelF.byN (fun hb => ?_) (fun hb => ?_) | refine SelF.by (fun hb => ?_) (fun hb => ?_)) <;> simp only [hb, evX, reduceIte, reduceCtorEq, Nat.reduceLT, Nat.reduceAdd, Nat.reduceEqDiff, Nat.reduceBEq, Nat.reduceLeDiff, Nat.reduceMul, ttL, tyL, ht])
  · simp only [decide_eq_true_eq] at hb
    have hlt : i < l.length := by omega
    have hnx := hnx hlt
    have kp := kl _ (List.getElem_mem hlt)
    refine IdxR.nat hE 9000 hlt rfl ?_
    simp only [evX, reduceIte, reduceCtorEq, Nat.reduceLT, Nat.reduceAdd, Nat.reduceEqDiff, Nat.reduceBEq, Nat.reduceLeDiff, Nat.reduceMul, ttL, tyL, ht]
    (refine StG.by hE ht 9000 rfl ?_ <;> simp only [evX, reduceIte, reduceCtorEq, Nat.reduceLT, Nat.reduceAdd, Nat.reduceEqDiff, Nat.reduceBEq, Nat.reduceLeDiff, Nat.reduceMul, ttL, tyL, ht])
    (refine CallG.ok hE 9000 (hP ▸ ok_ContainsId ids l[i].id (by omega)) rfl rfl ?_ <;> simp only [evX, reduceIte, reduceCtorEq, Nat.reduceLT, Nat.reduceAdd, Nat.reduceEqDiff, Nat.reduceBEq, Nat.reduceLeDiff, Nat.reduceMul, ttL, tyL, ht])
    have hov := ok_Over be l[i] (by omega) k2 kp
    have hdef : (ids.any fun y => idEq y l[i].id) = inIds ids l[i] := rfl
    rw [hdef]
    cases ho : overN be l[i] with
    | none =>
      rw [ho] at hov
      have hst : partN (l.take (i + 1)) ids = (st, be ++ [l[i]]) := by rw [hnx, partS, ho]; simp
      cases hin : inIds ids l[i]
      · refine CallI.inlD hE hP ht (fn := Tryz.f33) (by kernel_rfl) rfl rfl rfl _ _ rfl rfl _ rfl (Nat.le_of_ble_eq_true rfl) fun E' hE' hP' ht' h0' hrd' => ?_
        have h0' : E'.n0 = 4 := by rw [h0']; rfl
        refine Go.run hE' 9000 ?_
        simp only [Tryz.f33, evX, reduceIte, reduceCtorEq, Nat.reduceLT, Nat.reduceAdd, Nat.reduceEqDiff, Nat.reduceBEq, Nat.reduceLeDiff, Nat.reduceMul, ttL, tyL, ht']
        refine CallG.ok hE' 9000 (hP' ▸ hov) rfl rfl ?_
        simp only [retE, evX, reduceIte, reduceCtorEq, Nat.reduceLT, Nat.reduceAdd, Nat.reduceEqDiff, Nat.reduceBEq, Nat.reduceLeDiff, Nat.reduceMul, ttL, tyL, ht']
        refine StG.byX hE' ht' 9000 rfl rfl ?_
        simp only [evX, reduceIte, reduceCtorEq, Nat.reduceLT, Nat.reduceAdd, Nat.reduceEqDiff, Nat.reduceBEq, Nat.reduceLeDiff, Nat.reduceMul, ttL, tyL, ht']
        refine ⟨by kernel_rfl, ?_⟩
        refine AppG.by hE' 9000 rfl rfl (by simp [rowLen]) (by simp; omega) ?_
        simp only [evX, reduceIte, reduceCtorEq, Nat.reduceLT, Nat.reduceAdd, Nat.reduceEqDiff, Nat.reduceBEq, Nat.reduceLeDiff, Nat.reduceMul, ttL, tyL, ht']
        refine StG.byD hE' ht' 9000 rfl (by kernel_rfl) ?_
        simp only [evX, reduceIte, reduceCtorEq, Nat.reduceLT, Nat.reduceAdd, Nat.reduceEqDiff, Nat.reduceBEq, Nat.reduceLeDiff, Nat.reduceMul, ttL, tyL, ht']
        refine InlQ.by hE 9000 (.inr rfl) rfl ?_
        simp only [evX, reduceIte, reduceCtorEq, Nat.reduceLT, Nat.reduceAdd, Nat.reduceEqDiff, Nat.reduceBEq, Nat.reduceLeDiff, Nat.reduceMul, ttL, tyL, ht]
        refine ⟨⟨i + 1, by omega⟩, [0, 1, 8], Wk.of rfl (by simp) (by rw [h0]; simp [fixB]) (by simp [wkT, okA, wkP, cloE, Vam.look, sig, wrapN i (by omega), hst]) (by simp [wkBs, setBx, nthB, wkBx, wkL, okA, wkP, cloE, sig, wrapN i (by omega), hst]) (by simp) (by simp), by simp only; omega⟩
      · refine CallI.inlD hE hP ht (fn := Tryz.f33) (by kernel_rfl) rfl rfl rfl _ _ rfl rfl _ rfl (Nat.le_of_ble_eq_true rfl) fun E' hE' hP' ht' h0' hrd' => ?_
        have h0' : E'.n0 = 4 := by rw [h0']; rfl
        refine Go.run hE' 9000 ?_
        simp only [Tryz.f33, evX, reduceIte, reduceCtorEq, Nat.reduceLT, Nat.reduceAdd, Nat.reduceEqDiff, Nat.reduceBEq, Nat.reduceLeDiff, Nat.reduceMul, ttL, tyL, ht']
        refine CallG.ok hE' 9000 (hP' ▸ hov) rfl rfl ?_
        simp only [retE, evX, reduceIte, reduceCtorEq, Nat.reduceLT, Nat.reduceAdd, Nat.reduceEqDiff, Nat.reduceBEq, Nat.reduceLeDiff, Nat.reduceMul, ttL, tyL, ht']
        refine StG.byX hE' ht' 9000 rfl rfl ?_
        simp only [evX, reduceIte, reduceCtorEq, Nat.reduceLT, Nat.reduceAdd, Nat.reduceEqDiff, Nat.reduceBEq, Nat.reduceLeDiff, Nat.reduceMul, ttL, tyL, ht']
        refine ⟨by kernel_rfl, ?_⟩
        refine AppG.by hE' 9000 rfl rfl (by simp [rowLen]) (by simp; omega) ?_
        simp only [evX, reduceIte, reduceCtorEq, Nat.reduceLT, Nat.reduceAdd, Nat.reduceEqDiff, Nat.reduceBEq, Nat.reduceLeDiff, Nat.reduceMul, ttL, tyL, ht']
        refine StG.byD hE' ht' 9000 rfl (by kernel_rfl) ?_
        simp only [evX, reduceIte, reduceCtorEq, Nat.reduceLT, Nat.reduceAdd, Nat.reduceEqDiff, Nat.reduceBEq, Nat.reduceLeDiff, Nat.reduceMul, ttL, tyL, ht']
        refine InlQ.by hE 9000 (.inr rfl) rfl ?_
        simp only [evX, reduceIte, reduceCtorEq, Nat.reduceLT, Nat.reduceAdd, Nat.reduceEqDiff, Nat.reduceBEq, Nat.reduceLeDiff, Nat.reduceMul, ttL, tyL, ht]
        refine ⟨⟨i + 1, by omega⟩, [0, 1, 8], Wk.of rfl (by simp) (by rw [h0]; simp [fixB]) (by simp [wkT, okA, wkP, cloE, Vam.look, sig, wrapN i (by omega), hst]) (by simp [wkBs, setBx, nthB, wkBx, wkL, okA, wkP, cloE, sig, wrapN i (by omega), hst]) (by simp) (by simp), by simp only; omega⟩
    | some r =>
      obtain ⟨y, m⟩ := r
      rw [ho] at hov
      cases hin : inIds ids l[i]
      · refine CallI.inlD hE hP ht (fn := Tryz.f33) (by kernel_rfl) rfl rfl rfl _ _ rfl rfl _ rfl (Nat.le_of_ble_eq_true rfl) fun E' hE' hP' ht' h0' hrd' => ?_
        have h0' : E'.n0 = 4 := by rw [h0']; rfl
        refine Go.run hE' 9000 ?_
        simp only [Tryz.f33, evX, reduceIte, reduceCtorEq, Nat.reduceLT, Nat.reduceAdd, Nat.reduceEqDiff, Nat.reduceBEq, Nat.reduceLeDiff, Nat.reduceMul, ttL, tyL, ht']
        refine CallG.ok hE' 9000 (hP' ▸ hov) rfl rfl ?_
        simp only [retE, evX, reduceIte, reduceCtorEq, Nat.reduceLT, Nat.reduceAdd, Nat.reduceEqDiff, Nat.reduceBEq, Nat.reduceLeDiff, Nat.reduceMul, ttL, tyL, ht']
        refine StG.byX hE' ht' 9000 rfl rfl ?_
        simp only [evX, reduceIte, reduceCtorEq, Nat.reduceLT, Nat.reduceAdd, Nat.reduceEqDiff, Nat.reduceBEq, Nat.reduceLeDiff, Nat.reduceMul, ttL, tyL, ht']
        refine ⟨by kernel_rfl, ?_⟩
        have hst : partN (l.take (i + 1)) ids = (st ++ [y], m) := by rw [hnx, partS, ho]; simp [hin]
        refine AppG.by hE' 9000 rfl rfl (by simp [rowLen]) (by simp; omega) ?_
        simp only [evX, reduceIte, reduceCtorEq, Nat.reduceLT, Nat.reduceAdd, Nat.reduceEqDiff, Nat.reduceBEq, Nat.reduceLeDiff, Nat.reduceMul, ttL, tyL, ht']
        refine StG.byXW hE' ht' 9000 rfl rfl rfl rfl rfl rfl rfl rfl rfl ?_
        simp only [evX, reduceIte, reduceCtorEq, Nat.reduceLT, Nat.reduceAdd, Nat.reduceEqDiff, Nat.reduceBEq, Nat.reduceLeDiff, Nat.reduceMul, ttL, tyL, ht']
        refine StG.byD hE' ht' 9000 rfl (by kernel_rfl) ?_
        simp only [evX, reduceIte, reduceCtorEq, Nat.reduceLT, Nat.reduceAdd, Nat.reduceEqDiff, Nat.reduceBEq, Nat.reduceLeDiff, Nat.reduceMul, ttL, tyL, ht']
        refine InlQ.by hE 9000 (.inl rfl) rfl ?_
        simp only [evX, reduceIte, reduceCtorEq, Nat.reduceLT, Nat.reduceAdd, Nat.reduceEqDiff, Nat.reduceBEq, Nat.reduceLeDiff, Nat.reduceMul, ttL, tyL, ht]
        refine ⟨⟨i + 1, by omega⟩, [0, 8, 5], Wk.of rfl (by simp) (by rw [h0]; simp [fixB]) (by simp [wkT, okA, wkP, cloE, Vam.look, sig, wrapN i (by omega), hst]) (by simp [wkBs, setBx, nthB, wkBx, wkL, okA, wkP, cloE, sig, wrapN i (by omega), hst]) (by simp) (by simp), by simp only; omega⟩
      · have hst : partN (l.take (i + 1)) ids = (st, be ++ [l[i]]) := by rw [hnx, partS, ho]; simp [hin]
        refine CallI.inlD hE hP ht (fn := Tryz.f33) (by kernel_rfl) rfl rfl rfl _ _ rfl rfl _ rfl (Nat.le_of_ble_eq_true rfl) fun E' hE' hP' ht' h0' hrd' => ?_
        have h0' : E'.n0 = 4 := by rw [h0']; rfl
        refine Go.run hE' 9000 ?_
        simp only [Tryz.f33, evX, reduceIte, reduceCtorEq, Nat.reduceLT, Nat.reduceAdd, Nat.reduceEqDiff, Nat.reduceBEq, Nat.reduceLeDiff, Nat.reduceMul, ttL, tyL, ht']
        refine CallG.ok hE' 9000 (hP' ▸ hov) rfl rfl ?_
        simp only [retE, evX, reduceIte, reduceCtorEq, Nat.reduceLT, Nat.reduceAdd, Nat.reduceEqDiff, Nat.reduceBEq, Nat.reduceLeDiff, Nat.reduceMul, ttL, tyL, ht']
        refine StG.byX hE' ht' 9000 rfl rfl ?_
        simp only [evX, reduceIte, reduceCtorEq, Nat.reduceLT, Nat.reduceAdd, Nat.reduceEqDiff, Nat.reduceBEq, Nat.reduceLeDiff, Nat.reduceMul, ttL, tyL, ht']
        refine ⟨by kernel_rfl, ?_⟩
        refine AppG.by hE' 9000 rfl rfl (by simp [rowLen]) (by simp; omega) ?_
        simp only [evX, reduceIte, reduceCtorEq, Nat.reduceLT, Nat.reduceAdd, Nat.reduceEqDiff, Nat.reduceBEq, Nat.reduceLeDiff, Nat.reduceMul, ttL, tyL, ht']
        refine StG.byD hE' ht' 9000 rfl (by kernel_rfl) ?_
        simp only [evX, reduceIte, reduceCtorEq, Nat.reduceLT, Nat.reduceAdd, Nat.reduceEqDiff, Nat.reduceBEq, Nat.reduceLeDiff, Nat.reduceMul, ttL, tyL, ht']
        refine InlQ.by hE 9000 (.inr rfl) rfl ?_
        simp only [evX, reduceIte, reduceCtorEq, Nat.reduceLT, Nat.reduceAdd, Nat.reduceEqDiff, Nat.reduceBEq, Nat.reduceLeDiff, Nat.reduceMul, ttL, tyL, ht]
        refine ⟨⟨i + 1, by omega⟩, [0, 1, 8], Wk.of rfl (by simp) (by rw [h0]; simp [fixB]) (by simp [wkT, okA, wkP, cloE, Vam.look, sig, wrapN i (by omega), hst]) (by simp [wkBs, setBx, nthB, wkBx, wkL, okA, wkP, cloE, sig, wrapN i (by omega), hst]) (by simp) (by simp), by simp only; omega⟩
  · refine ⟨by kernel_rfl, ?_⟩
    have hi' : i = l.length := by simp at hb; omega
    subst hi'
    rw [List.take_length] at hpt
    rw [hpt]
    exact RetQ.mix2 (z := .own 2) (b := 1) (.inr rfl) (tmpV rfl) (tmpV rfl) (by intro b' hb'; simp only [frzOf, List.mem_singleton] at hb'; subst hb'; exact ⟨rfl, by decide⟩) rfl rfl rfl rfl
end Go.Proofs.YtmfbcgheffdghaaGreat

/- Which ids are missing: the program's way. -/
namespace Go.Proofs.YtmfbcgheffdghaaGreat
open Go.Vam Go.Qm
set_option linter.unusedVariables false
set_option linter.unusedSimpArgs false
set_option maxRecDepth 8000
set_option maxHeartbeats 4000000

theorem mapU : Tryz.prog.underlying 56 = some (.map 33 4) := by kernel_rfl
theorem idLaid : laidOutB Tryz.prog = true := by kernel_rfl
theorem idRow : (33 : TypeId) < Tryz.prog.types.size := of_decide_eq_true (by kernel_rfl)
theorem idWide : (match Tryz.prog.underlying 33 with | some (.array _ _) | some (.struct _) => true | _ => false) = true := by kernel_rfl
theorem idKeyed : Maps.Keyed Tryz.prog 33 := Maps.Keyed.of_law (deep_law_laid idLaid (m := 2) (by omega) idRow (by kernel_rfl) idWide)
theorem boolZ (w : World) : (zeroValue 4).run Tryz.prog w = .ok (.bool false) w := by kernel_rfl
theorem idKeys {ks : List (Int × Int)} (h : ∀ k ∈ ks, (-9223372036854775808 ≤ k.1 ∧ k.1 ≤ 9223372036854775807) ∧ (-9223372036854775808 ≤ k.2 ∧ k.2 ≤ 9223372036854775807)) : KeysOk Tryz.prog 33 ks :=
  keysOk_of (ti := 3) (by kernel_rfl) (by kernel_rfl) (by kernel_rfl) h
theorem keysN_R {l : List Named} (h : ∀ p ∈ l, idR p.id) : ∀ k ∈ keysN l, (-9223372036854775808 ≤ k.1 ∧ k.1 ≤ 9223372036854775807) ∧ (-9223372036854775808 ≤ k.2 ∧ k.2 ≤ 9223372036854775807) := fun k hk => by
  rw [keysN, fold_mem] at hk
  simp only [List.not_mem_nil, false_or, List.mem_map] at hk
  obtain ⟨x, hx, rfl⟩ := hk
  obtain ⟨p, hp, rfl⟩ := List.mem_map.1 hx
  exact h p hp
theorem ok_Missing (a b : List Named) (la : a.length * 80 ≤ 140737488355328) (lb : b.length * 80 ≤ 140737488355328) (ra : ∀ p ∈ a, idR p.id) (rb : ∀ p ∈ b, idR p.id) : Ok Tryz.prog 12 [namedsA a, namedsA b] (.v (idsA (missN a b))) := by
  (refine Ok.code hT hM (fn := Tryz.f12) rfl rfl rfl _ _ rfl rfl (Nat.le_of_ble_eq_true rfl) fun E hE hP ht h0 hrd => ?_; refine Go.run hE 9000 ?_; simp only [Tryz.f12, evX, reduceIte, reduceCtorEq, Nat.reduceLT, Nat.reduceAdd, Nat.reduceEqDiff, Nat.reduceBEq, Nat.reduceLeDiff, Nat.reduceMul, ttL, tyL, ht])
  (refine CallG.ok hE 9000 (hP ▸ ok_Ids b lb) rfl rfl ?_ <;> simp only [evX, reduceIte, reduceCtorEq, Nat.reduceLT, Nat.reduceAdd, Nat.reduceEqDiff, Nat.reduceBEq, Nat.reduceLeDiff, Nat.reduceMul, ttL, tyL, ht])
  refine CallG.inl hE hP ht (fn := Tryz.f24) rfl rfl rfl _ _ rfl rfl _ rfl (Nat.le_of_ble_eq_true rfl) fun E1 hE1 hP1 ht1 h01 hrd1 => ?_
  have h01 : E1.n0 = 1 := by rw [h01]; rfl
  refine Go.run hE1 9000 ?_
  simp only [Tryz.f24, evX, reduceIte, reduceCtorEq, Nat.reduceLT, Nat.reduceAdd, Nat.reduceEqDiff, Nat.reduceBEq, Nat.reduceLeDiff, Nat.reduceMul, ttL, tyL, ht1]
  refine HardOp.mkMap hE1 9000 rfl ?_
  simp only [evX, reduceIte, reduceCtorEq, Nat.reduceLT, Nat.reduceAdd, Nat.reduceEqDiff, Nat.reduceBEq, Nat.reduceLeDiff, Nat.reduceMul, ttL, tyL, ht1]
  refine CallG.ok hE1 9000 (hP1 ▸ ok_Ids a la) rfl rfl ?_
  simp only [evX, reduceIte, reduceCtorEq, Nat.reduceLT, Nat.reduceAdd, Nat.reduceEqDiff, Nat.reduceBEq, Nat.reduceLeDiff, Nat.reduceMul, ttL, tyL, ht1]
  have hla : (idsN a).length = a.length := by simp [idsN]
  have hlb : (idsN b).length = b.length := by simp [idsN]
  have hid : ∀ (l : List Named) (i : Nat) (h : i < l.length), (idsC (idsN l))[i]? = some (idC l[i].id) := fun l i h => by
    rw [List.getElem?_map, idsN, List.getElem?_map, List.getElem?_eq_getElem h]; rfl
  have hget : ∀ (i : Nat) (h : i < b.length), (idsN b)[i]? = some b[i].id := fun i h => by
    rw [idsN, List.getElem?_map, List.getElem?_eq_getElem h]; rfl
  refine Loop.by hE1 (ι := {i : Nat // i ≤ a.length}) (fun i => ⟨18, [(3, .own 1), (8, .own 2), (9, intA ((idsN a).length : Int)), (10, intA (i.1 : Int))], [.rows 33 2 (idsC (idsN b)), .mp (keysN (a.take i.1)), .rows 33 2 (idsC (idsN a))], [], []⟩) (fun i => a.length - i.1) ⟨0, by simp⟩ 9000 ⟨[0, 1, 2], ?_⟩ (by simp [h01]) ?_
  · refine Wk.of rfl (by simp) (by rw [h01]; simp [fixB]) ?_ ?_ (by simp) (by simp)
    · simp [wkT, okA, Vam.look, sig]
    · simp [wkBs, setBx, nthB, wkBx, wkL, okA, wkP, cloE, sig, wkT, Vam.look, keysN, idsN]
  · rintro ⟨i, hi⟩
    have hi : i ≤ a.length := hi
    simp only [evX, reduceIte, reduceCtorEq, Nat.reduceLT, Nat.reduceAdd, Nat.reduceEqDiff, Nat.reduceBEq, Nat.reduceLeDiff, Nat.reduceMul, ttL, tyL, ht1]
    ((first | refine SelF.byN (fun hb => ?_) (fun hb => ?_) | refine SelF.by (fun hb => ?_) (fun hb => ?_)) <;> simp only [hb, evX, reduceIte, reduceCtorEq, Nat.reduceLT, Nat.reduceAdd, Nat.reduceEqDiff, Nat.reduceBEq, Nat.reduceLeDiff, Nat.reduceMul, ttL, tyL, ht1])
    · simp only [decide_eq_true_eq] at hb
      have hlt : i < a.length := by omega
      refine IdxO.by hE1 9000 (by omega) (by simp; omega) ?_
      try simp only [Int.toNat_natCast, Nat.sub_self]
      simp only [evX, reduceIte, reduceCtorEq, Nat.reduceLT, Nat.reduceAdd, Nat.reduceEqDiff, Nat.reduceBEq, Nat.reduceLeDiff, Nat.reduceMul, ttL, tyL, ht1]
      refine LdO.by hE1 (j := i) (row := idC a[i].id) 9000 (hid a i hlt) (by simp) (by simp) ?_
      try simp only [Int.toNat_natCast, Nat.sub_self]
      simp only [evX, reduceIte, reduceCtorEq, Nat.reduceLT, Nat.reduceAdd, Nat.reduceEqDiff, Nat.reduceBEq, Nat.reduceLeDiff, Nat.reduceMul, ttL, tyL, ht1]
      refine StG.by hE1 ht1 9000 rfl ?_
      simp only [evX, reduceIte, reduceCtorEq, Nat.reduceLT, Nat.reduceAdd, Nat.reduceEqDiff, Nat.reduceBEq, Nat.reduceLeDiff, Nat.reduceMul, ttL, tyL, ht1]
      have hkk : KeysOk Tryz.prog 33 (keyI a[i].id :: keysN (a.take i)) := idKeys fun k hk => by
        rcases List.mem_cons.1 hk with rfl | hk
        · exact ra _ (List.getElem_mem hlt)
        · exact keysN_R (fun p hp => ra p (List.mem_of_mem_take hp)) k hk
      refine HardOp.mapSet hE1 (q := keyI a[i].id) 9000 rfl (hP1 ▸ mapU) (hP1 ▸ idKeyed) rfl rfl rfl (hP1 ▸ hkk) rfl rfl ?_
      simp only [evX, reduceIte, reduceCtorEq, Nat.reduceLT, Nat.reduceAdd, Nat.reduceEqDiff, Nat.reduceBEq, Nat.reduceLeDiff, Nat.reduceMul, ttL, tyL, ht1]
      refine ⟨⟨i + 1, by omega⟩, [0, 1, 2], Wk.of rfl (by simp) (by rw [h01]; simp [fixB]) ?_ ?_ (by simp) (by simp), by simp only; omega⟩
      · simp [wkT, okA, Vam.look, sig]
        rw [wrap64 (by omega) (by omega)]
      · simp [wkBs, setBx, nthB, wkBx, wkL, okA, wkP, cloE, sig, wkT, Vam.look, keys_take hlt]
    · have hi' : i = a.length := by simp at hb; omega
      subst hi'
      rw [List.take_length]
      refine InlQ.by hE 9000 (.inr rfl) rfl ?_
      simp only [evX, reduceIte, reduceCtorEq, Nat.reduceLT, Nat.reduceAdd, Nat.reduceEqDiff, Nat.reduceBEq, Nat.reduceLeDiff, Nat.reduceMul, ttL, tyL, ht]
      refine CloG.by hE 9000 ?_
      simp only [evX, reduceIte, reduceCtorEq, Nat.reduceLT, Nat.reduceAdd, Nat.reduceEqDiff, Nat.reduceBEq, Nat.reduceLeDiff, Nat.reduceMul, ttL, tyL, ht]
      have hkb : ∀ p ∈ b, KeysOk Tryz.prog 33 (keyI p.id :: keysN a) := fun p hp => idKeys fun k hk => by
        rcases List.mem_cons.1 hk with rfl | hk
        · exact rb p hp
        · exact keysN_R ra k hk
      refine CallG.inl hE hP ht (fn := Tryz.f28) rfl rfl rfl _ _ rfl rfl _ rfl (Nat.le_of_ble_eq_true rfl) fun E2 hE2 hP2 ht2 h02 hrd2 => ?_
      have h02 : E2.n0 = 3 := by rw [h02]; rfl
      refine Go.run hE2 9000 ?_
      simp only [Tryz.f28, evX, reduceIte, reduceCtorEq, Nat.reduceLT, Nat.reduceAdd, Nat.reduceEqDiff, Nat.reduceBEq, Nat.reduceLeDiff, Nat.reduceMul, ttL, tyL, ht2]
      refine CallG.inl hE2 hP2 ht2 (fn := Tryz.f51) rfl rfl rfl _ _ rfl rfl _ rfl (Nat.le_of_ble_eq_true rfl) fun E3 hE3 hP3 ht3 h03 hrd3 => ?_
      have h03 : E3.n0 = 3 := by rw [h03]; rfl
      refine Go.run hE3 9000 ?_
      simp only [Tryz.f51, evX, reduceIte, reduceCtorEq, Nat.reduceLT, Nat.reduceAdd, Nat.reduceEqDiff, Nat.reduceBEq, Nat.reduceLeDiff, Nat.reduceMul, ttL, tyL, ht3]
      refine Loop.by hE3 (ι := {i : Nat // i ≤ b.length ∧ (idsN (b.take i)).any (hasI a) = false}) (fun i => ⟨19, [(0, .own 0), (1, .clo 29 [.own 1] []), (7, intA ((idsN b).length : Int)), (8, intA (i.1 : Int))], [.rows 33 2 (idsC (idsN b)), .mp (keysN a), .rows 33 2 (idsC (idsN a))], [], []⟩) (fun i => b.length - i.1) ⟨0, by simp [idsN]⟩ 9000 ⟨[0, 1, 2], ?_⟩ (by simp [h03]) ?_
      · refine Wk.of rfl (by simp) (by rw [h03]; simp [fixB]) ?_ ?_ (by simp) (by simp)
        · simp [wkT, okA, wkP, cloE, Vam.look, sig]
        · simp [wkBs, setBx, nthB, wkBx, wkL, okA, wkP, cloE, sig, wkT, Vam.look]
      · rintro ⟨i, hi, hnone⟩
        simp only [evX, reduceIte, reduceCtorEq, Nat.reduceLT, Nat.reduceAdd, Nat.reduceEqDiff, Nat.reduceBEq, Nat.reduceLeDiff, Nat.reduceMul, ttL, tyL, ht3]
        ((first | refine SelF.byN (fun hb => ?_) (fun hb => ?_) | refine SelF.by (fun hb => ?_) (fun hb => ?_)) <;> simp only [hb, evX, reduceIte, reduceCtorEq, Nat.reduceLT, Nat.reduceAdd, Nat.reduceEqDiff, Nat.reduceBEq, Nat.reduceLeDiff, Nat.reduceMul, ttL, tyL, ht3])
        · simp only [decide_eq_true_eq] at hb
          have hlt : i < b.length := by omega
          refine IdxO.by hE3 9000 (by omega) (by simp; omega) ?_
          try simp only [Int.toNat_natCast, Nat.sub_self]
          simp only [evX, reduceIte, reduceCtorEq, Nat.reduceLT, Nat.reduceAdd, Nat.reduceEqDiff, Nat.reduceBEq, Nat.reduceLeDiff, Nat.reduceMul, ttL, tyL, ht3]
          refine LdO.by hE3 (j := i) (row := idC b[i].id) 9000 (hid b i hlt) (by simp) (by simp) ?_
          try simp only [Int.toNat_natCast, Nat.sub_self]
          simp only [evX, reduceIte, reduceCtorEq, Nat.reduceLT, Nat.reduceAdd, Nat.reduceEqDiff, Nat.reduceBEq, Nat.reduceLeDiff, Nat.reduceMul, ttL, tyL, ht3]
          refine CallI.inl hE3 hP3 ht3 (fn := Tryz.f29) rfl rfl rfl _ _ rfl rfl _ rfl (Nat.le_of_ble_eq_true rfl) fun E4 hE4 hP4 ht4 h04 hrd4 => ?_
          refine Go.run hE4 9000 ?_
          simp only [Tryz.f29, evX, reduceIte, reduceCtorEq, Nat.reduceLT, Nat.reduceAdd, Nat.reduceEqDiff, Nat.reduceBEq, Nat.reduceLeDiff, Nat.reduceMul, ttL, tyL, ht4]
          refine HardOp.mapGet hE4 (q := keyI b[i].id) 9000 rfl (hP4 ▸ mapU) (hP4 ▸ idKeyed) (hP4 ▸ boolZ) rfl rfl (hP4 ▸ hkb _ (List.getElem_mem hlt)) rfl rfl ?_
          simp only [evX, reduceIte, reduceCtorEq, Nat.reduceLT, Nat.reduceAdd, Nat.reduceEqDiff, Nat.reduceBEq, Nat.reduceLeDiff, Nat.reduceMul, ttL, tyL, ht4]
          refine InlQ.by hE3 9000 (.inr rfl) rfl ?_
          simp only [evX, reduceIte, reduceCtorEq, Nat.reduceLT, Nat.reduceAdd, Nat.reduceEqDiff, Nat.reduceBEq, Nat.reduceLeDiff, Nat.reduceMul, ttL, tyL, ht3, keys_dec]
          have hsn : (idsN (b.take (i + 1))).any (hasI a) = hasI a b[i].id := by
            rw [List.take_add_one, List.getElem?_eq_getElem hlt, idsN_append, List.any_append, hnone]
            simp [idsN]
          cases hc : hasI a b[i].id
          · simp only [evX, reduceIte, reduceCtorEq, Nat.reduceLT, Nat.reduceAdd, Nat.reduceEqDiff, Nat.reduceBEq, Nat.reduceLeDiff, Nat.reduceMul, ttL, tyL, ht3]
            refine ⟨⟨i + 1, by omega, by rw [hsn, hc]⟩, [0, 1, 2], Wk.of rfl (by simp) (by rw [h03]; simp [fixB]) ?_ ?_ (by simp) (by simp), by simp only; omega⟩
            · simp [wkT, okA, wkP, cloE, Vam.look, sig]
              rw [wrap64 (by omega) (by omega)]
            · simp [wkBs, setBx, nthB, wkBx, wkL, okA, wkP, cloE, sig, wkT, Vam.look]
          · simp only [evX, reduceIte, reduceCtorEq, Nat.reduceLT, Nat.reduceAdd, Nat.reduceEqDiff, Nat.reduceBEq, Nat.reduceLeDiff, Nat.reduceMul, ttL, tyL, ht3]
            refine InlQ.by hE2 9000 (.inr rfl) rfl ?_
            simp only [evX, reduceIte, reduceCtorEq, Nat.reduceLT, Nat.reduceAdd, Nat.reduceEqDiff, Nat.reduceBEq, Nat.reduceLeDiff, Nat.reduceMul, ttL, tyL, ht2]
            have hm1 : ((i : Int) == -1) = false := by simp
            have hst : (idsN b).take i = ((idsN b).take (i + 1)).filter (fun x => !hasI a x) := by
              have e1 : (idsN b).take i = idsN (b.take i) := by simp [idsN]
              have e2 : (idsN b).take (i + 1) = idsN (b.take i) ++ [b[i].id] := by
                rw [List.take_add_one, e1, hget i hlt]; rfl
              rw [e2, e1, List.filter_append, List.filter_eq_self.2 fun x hx => by
                rw [List.any_eq_false] at hnone
                simpa using hnone x hx]
              simp [hc]
            simp only [hm1, evX, reduceIte, reduceCtorEq, Nat.reduceLT, Nat.reduceAdd, Nat.reduceEqDiff, Nat.reduceBEq, Nat.reduceLeDiff, Nat.reduceMul, ttL, tyL, ht2]
            refine Loop.by hE2 (ι := {s : Nat × Nat × List Qm.Id // s.2.1 < s.1 ∧ s.1 ≤ b.length ∧ s.2.2.length = b.length ∧ s.2.2.take s.2.1 = ((idsN b).take s.1).filter (fun x => !hasI a x) ∧ s.2.2.drop s.1 = (idsN b).drop s.1}) (fun s => ⟨42, [(0, .own 0), (1, .clo 29 [.own 1] []), (5, intA (s.1.2.1 : Int)), (6, intA (s.1.1 : Int))], [.rows 33 2 (idsC s.1.2.2), .mp (keysN a), .rows 33 2 (idsC (idsN a))], [], []⟩) (fun s => b.length - s.1.1) ⟨(i + 1, i, idsN b), by simp, by simp only; omega, hlb, hst, rfl⟩ 9000 ⟨[0, 1, 2], ?_⟩ (by simp [h02]) ?_
            · refine Wk.of rfl (by simp) (by rw [h02]; simp [fixB]) ?_ ?_ (by simp) (by simp)
              · simp [wkT, okA, wkP, cloE, Vam.look, sig]
                rw [wrap64 (by omega) (by omega)]
              · simp [wkBs, setBx, nthB, wkBx, wkL, okA, wkP, cloE, sig, wkT, Vam.look]
            · rintro ⟨⟨j, k, L⟩, hkj, hjb, hL, htk, hdr⟩
              simp only at hkj hjb hL htk hdr
              simp only [evX, reduceIte, reduceCtorEq, Nat.reduceLT, Nat.reduceAdd, Nat.reduceEqDiff, Nat.reduceBEq, Nat.reduceLeDiff, Nat.reduceMul, ttL, tyL, ht2]
              ((first | refine SelF.byN (fun hb => ?_) (fun hb => ?_) | refine SelF.by (fun hb => ?_) (fun hb => ?_)) <;> simp only [hb, evX, reduceIte, reduceCtorEq, Nat.reduceLT, Nat.reduceAdd, Nat.reduceEqDiff, Nat.reduceBEq, Nat.reduceLeDiff, Nat.reduceMul, ttL, tyL, ht2])
              · simp only [decide_eq_true_eq] at hb
                have hlt : j < b.length := by omega
                have hrow : (idsC L)[j]? = some (idC b[j].id) := by
                  have e1 : L[j]? = (idsN b)[j]? := by
                    have := congrArg (fun m => m[0]?) hdr
                    simpa using this
                  rw [List.getElem?_map, e1, idsN, List.getElem?_map, List.getElem?_eq_getElem hlt]; rfl
                refine IdxO.by hE2 9000 (by omega) (by simp; omega) ?_
                try simp only [Int.toNat_natCast, Nat.sub_self]
                simp only [evX, reduceIte, reduceCtorEq, Nat.reduceLT, Nat.reduceAdd, Nat.reduceEqDiff, Nat.reduceBEq, Nat.reduceLeDiff, Nat.reduceMul, ttL, tyL, ht2]
                refine LdO.by hE2 (j := j) (row := idC b[j].id) 9000 hrow (by simp) (by simp) ?_
                try simp only [Int.toNat_natCast, Nat.sub_self]
                simp only [evX, reduceIte, reduceCtorEq, Nat.reduceLT, Nat.reduceAdd, Nat.reduceEqDiff, Nat.reduceBEq, Nat.reduceLeDiff, Nat.reduceMul, ttL, tyL, ht2]
                refine StG.by hE2 ht2 9000 rfl ?_
                simp only [evX, reduceIte, reduceCtorEq, Nat.reduceLT, Nat.reduceAdd, Nat.reduceEqDiff, Nat.reduceBEq, Nat.reduceLeDiff, Nat.reduceMul, ttL, tyL, ht2]
                refine CallI.inl hE2 hP2 ht2 (fn := Tryz.f29) rfl rfl rfl _ _ rfl rfl _ rfl (Nat.le_of_ble_eq_true rfl) fun E4 hE4 hP4 ht4 h04 hrd4 => ?_
                refine Go.run hE4 9000 ?_
                simp only [Tryz.f29, evX, reduceIte, reduceCtorEq, Nat.reduceLT, Nat.reduceAdd, Nat.reduceEqDiff, Nat.reduceBEq, Nat.reduceLeDiff, Nat.reduceMul, ttL, tyL, ht4]
                refine HardOp.mapGet hE4 (q := keyI b[j].id) 9000 rfl (hP4 ▸ mapU) (hP4 ▸ idKeyed) (hP4 ▸ boolZ) rfl rfl (hP4 ▸ hkb _ (List.getElem_mem hlt)) rfl rfl ?_
                simp only [evX, reduceIte, reduceCtorEq, Nat.reduceLT, Nat.reduceAdd, Nat.reduceEqDiff, Nat.reduceBEq, Nat.reduceLeDiff, Nat.reduceMul, ttL, tyL, ht4]
                refine InlQ.by hE2 9000 (.inr rfl) rfl ?_
                simp only [evX, reduceIte, reduceCtorEq, Nat.reduceLT, Nat.reduceAdd, Nat.reduceEqDiff, Nat.reduceBEq, Nat.reduceLeDiff, Nat.reduceMul, ttL, tyL, ht2, keys_dec]
                cases hc : hasI a b[j].id
                · simp only [evX, reduceIte, reduceCtorEq, Nat.reduceLT, Nat.reduceAdd, Nat.reduceEqDiff, Nat.reduceBEq, Nat.reduceLeDiff, Nat.reduceMul, ttL, tyL, ht2, Bool.not_false]
                  have hkl : k < L.length := by omega
                  have hrowk : (idsC L)[k]? = some (idC L[k]) := by rw [List.getElem?_map, List.getElem?_eq_getElem hkl]; rfl
                  refine IdxO.by hE2 9000 (by omega) (by simp; omega) ?_
                  try simp only [Int.toNat_natCast, Nat.sub_self]
                  simp only [evX, reduceIte, reduceCtorEq, Nat.reduceLT, Nat.reduceAdd, Nat.reduceEqDiff, Nat.reduceBEq, Nat.reduceLeDiff, Nat.reduceMul, ttL, tyL, ht2]
                  refine StG.byO hE2 ht2 (j := k) (row := idC L[k]) 9000 rfl rfl rfl rfl rfl hrowk rfl (by simp) (by simp [tyL]) ?_
                  simp only [evX, reduceIte, reduceCtorEq, Nat.reduceLT, Nat.reduceAdd, Nat.reduceEqDiff, Nat.reduceBEq, Nat.reduceLeDiff, Nat.reduceMul, ttL, tyL, ht2]
                  refine ⟨⟨(j + 1, k + 1, L.set k b[j].id), by simp only; omega, by simp only; omega, by simp [hL], ?_, ?_⟩, [0, 1, 2], Wk.of rfl (by simp) (by rw [h02]; simp [fixB]) ?_ ?_ (by simp) (by simp), by simp only; omega⟩
                  · simp only
                    rw [List.take_add_one, List.take_add_one, List.filter_append, ← htk, List.take_set_of_le (Nat.le_refl k), List.getElem?_set_self hkl, hget j hlt]
                    simp [hc]
                  · simp only
                    rw [List.drop_set_of_lt (by omega), ← List.drop_drop, ← List.drop_drop, hdr]
                  · simp [wkT, okA, wkP, cloE, Vam.look, sig]
                    rw [wrap64 (by omega) (by omega), wrap64 (by omega) (by omega)]
                    exact ⟨rfl, rfl⟩
                  · simp [wkBs, setBx, nthB, wkBx, wkL, okA, wkP, cloE, sig, wkT, Vam.look]
                · simp only [evX, reduceIte, reduceCtorEq, Nat.reduceLT, Nat.reduceAdd, Nat.reduceEqDiff, Nat.reduceBEq, Nat.reduceLeDiff, Nat.reduceMul, ttL, tyL, ht2, Bool.not_true]
                  refine ⟨⟨(j + 1, k, L), by simp only; omega, by simp only; omega, hL, ?_, ?_⟩, [0, 1, 2], Wk.of rfl (by simp) (by rw [h02]; simp [fixB]) ?_ ?_ (by simp) (by simp), by simp only; omega⟩
                  · simp only
                    rw [List.take_add_one (l := idsN b), List.filter_append, ← htk, hget j hlt]
                    simp [hc]
                  · simp only
                    rw [← List.drop_drop, ← List.drop_drop, hdr]
                  · simp [wkT, okA, wkP, cloE, Vam.look, sig]
                    rw [wrap64 (by omega) (by omega)]
                  · simp [wkBs, setBx, nthB, wkBx, wkL, okA, wkP, cloE, sig, wkT, Vam.look]
              · have hj' : j = b.length := by simp at hb; omega
                subst hj'
                have hkl : k < (idsC L).length := by simp; omega
                refine HardOp.tail hE2 ht2 9000 rfl rfl rfl rfl rfl rfl rfl rfl hkl ?_
                simp only [evX, reduceIte, reduceCtorEq, Nat.reduceLT, Nat.reduceAdd, Nat.reduceEqDiff, Nat.reduceBEq, Nat.reduceLeDiff, Nat.reduceMul, ttL, tyL, ht2]
                refine HardOp.clr hE2 ht2 (zr := [.sc (.int .i64 0), .sc (.int .i64 0)]) 9000 rfl rfl rfl rfl rfl rfl rfl rfl rfl hkl rfl (by simp) ?_
                simp only [evX, reduceIte, reduceCtorEq, Nat.reduceLT, Nat.reduceAdd, Nat.reduceEqDiff, Nat.reduceBEq, Nat.reduceLeDiff, Nat.reduceMul, ttL, tyL, ht2]
                refine SlcO.by hE2 9000 (by omega) (by simp; omega) ?_
                try simp only [Int.toNat_natCast]
                simp only [evX, reduceIte, reduceCtorEq, Nat.reduceLT, Nat.reduceAdd, Nat.reduceEqDiff, Nat.reduceBEq, Nat.reduceLeDiff, Nat.reduceMul, ttL, tyL, ht2]
                refine InlQ.by hE 9000 (.inr rfl) rfl ?_
                simp only [evX, reduceIte, reduceCtorEq, Nat.reduceLT, Nat.reduceAdd, Nat.reduceEqDiff, Nat.reduceBEq, Nat.reduceLeDiff, Nat.reduceMul, ttL, tyL, ht]
                refine RetQ.ownV (.inr rfl) rfl rfl rfl ?_
                rw [List.take_append_of_le_length (by simp; omega), List.take_take, Nat.min_self, ← List.map_take, htk, List.take_of_length_le (by omega)]
                rfl
        · have hi' : i = b.length := by simp at hb; omega
          subst hi'
          rw [List.take_length] at hnone
          refine InlQ.by hE2 9000 (.inr rfl) rfl ?_
          simp only [evX, reduceIte, reduceCtorEq, Nat.reduceLT, Nat.reduceAdd, Nat.reduceEqDiff, Nat.reduceBEq, Nat.reduceLeDiff, Nat.reduceMul, ttL, tyL, ht2]
          have hm1 : ((-1 : Int) == -1) = true := rfl
          try simp only [hm1, evX, reduceIte, reduceCtorEq, Nat.reduceLT, Nat.reduceAdd, Nat.reduceEqDiff, Nat.reduceBEq, Nat.reduceLeDiff, Nat.reduceMul, ttL, tyL, ht2]
          refine InlQ.by hE 9000 (.inr rfl) rfl ?_
          simp only [evX, reduceIte, reduceCtorEq, Nat.reduceLT, Nat.reduceAdd, Nat.reduceEqDiff, Nat.reduceBEq, Nat.reduceLeDiff, Nat.reduceMul, ttL, tyL, ht]
          refine RetQ.ownV (.inr rfl) rfl rfl rfl ?_
          rw [missN, List.filter_eq_self.2 fun x hx => by
            rw [List.any_eq_false] at hnone
            simpa using hnone x hx]
end Go.Proofs.YtmfbcgheffdghaaGreat
