/- The program's functions, walked (part 15). -/
import Derived.Test.YtmfbcgheffdghaaGreatS14
import Derived.Test.YtmfbcgheffdghaaGreatTj1
import Derived.Test.YtmfbcgheffdghaaGreatTt2
import Derived.Test.YtmfbcgheffdghaaGreatTh5
import Derived.Test.YtmfbcgheffdghaaGreatG11
/- What is picked: the program's way. -/
namespace Go.Proofs.YtmfbcgheffdghaaGreat.Px
open Go.Vam Go.Qm
set_option linter.unusedVariables false
set_option linter.unusedSimpArgs false
set_option maxRecDepth 8000
set_option maxHeartbeats 4000000

theorem pastN_keep {K : Named → Prop} (hK : ∀ p q x y, K p → K q → passN p q = some (x, y) → K x ∧ K y) {l : List Named} {p z : Named} {m : List Named} (h : pastN p l = some (m, z)) (hl : ∀ x ∈ l, K x) (hp : K p) : K z ∧ ∀ x ∈ m, K x := by
  induction l generalizing p m with
  | nil =>
    simp only [pastN, Option.some.injEq, Prod.mk.injEq] at h
    obtain ⟨rfl, rfl⟩ := h
    exact ⟨hp, by simp⟩
  | cons x l ih =>
    obtain ⟨y, p1, m', g1, g2, rfl⟩ := pastN_cons.1 h
    obtain ⟨k1, k2⟩ := hK _ _ _ _ hp (hl x (by simp)) g1
    obtain ⟨k3, k4⟩ := ih g2 (fun z hz => hl z (by simp [hz])) k2
    refine ⟨k3, fun z hz => ?_⟩
    rcases List.mem_cons.1 hz with rfl | hz
    · exact k1
    · exact k4 z hz
theorem pick_ok {ids : List Qm.Id} {l : List Named} (kl : ∀ p ∈ l, okN p) : (∀ x ∈ (pickN l ids).1, okN x) ∧ ∀ x ∈ (pickN l ids).2, okN x := by
  induction l with
  | nil => simp [pickN]
  | cons p l ih =>
    obtain ⟨i1, i2⟩ := ih fun x hx => kl x (by simp [hx])
    have kp := kl p (by simp)
    show (∀ x ∈ (pickS ids p (pickN l ids)).1, okN x) ∧ ∀ x ∈ (pickS ids p (pickN l ids)).2, okN x
    have hc : ∀ x ∈ p :: (pickN l ids).1, okN x := fun x hx => by
      rcases List.mem_cons.1 hx with rfl | hx
      · exact kp
      · exact i1 x hx
    unfold pickS
    split
    · exact ⟨hc, i2⟩
    · split
      · rename_i m x e
        obtain ⟨k1, k2⟩ := pastN_keep okN_pass e i1 kp
        refine ⟨k2, fun z hz => ?_⟩
        rcases List.mem_cons.1 hz with rfl | hz
        · exact k1
        · exact i2 z hz
      · exact ⟨hc, i2⟩
theorem pick_len {ids : List Qm.Id} (l : List Named) : (pickN l ids).1.length + (pickN l ids).2.length = l.length := by
  have := (pick_perm ids l).length_eq
  simpa [idsN] using this
theorem pick_drop {ids : List Qm.Id} {l : List Named} {j : Nat} (h0 : 0 < j) (h : j - 1 < l.length) : pickN (l.drop (j - 1)) ids = pickS ids l[j - 1] (pickN (l.drop j) ids) := by
  have e : l.drop (j - 1) = l[j - 1] :: l.drop j := by
    conv => lhs; rw [List.drop_eq_getElem_cons h, show j - 1 + 1 = j by omega]
  rw [e]
  rfl
theorem pastN_step {p q y q' : Named} {l m : List Named} {i : Nat} (hi : i < l.length) (h : pastN p (l.take i) = some (m, q)) (hp : passN q l[i] = some (y, q')) : pastN p (l.take (i + 1)) = some (m ++ [y], q') := by
  rw [List.take_add_one, List.getElem?_eq_getElem hi]
  exact pastN_append.2 ⟨m, q, [y], h, pastN_cons.2 ⟨y, q', [], hp, rfl, rfl⟩, rfl⟩
theorem pastN_fail {p q : Named} {l m : List Named} {i : Nat} (hi : i < l.length) (h : pastN p (l.take i) = some (m, q)) (hp : passN q l[i] = none) : pastN p l = none := by
  cases hs : pastN p l with
  | none => rfl
  | some r =>
    exfalso
    obtain ⟨m', z⟩ := r
    rw [← List.take_append_drop i l] at hs
    obtain ⟨a', y, b', g1, g2, _⟩ := pastN_append.1 hs
    rw [h] at g1
    simp only [Option.some.injEq, Prod.mk.injEq] at g1
    obtain ⟨rfl, rfl⟩ := g1
    rw [List.drop_eq_getElem_cons hi] at g2
    obtain ⟨_, _, _, g3, _⟩ := pastN_cons.1 g2
    rw [hp] at g3
    cases g3
end Go.Proofs.YtmfbcgheffdghaaGreat.Px

/- What stays, what is put behind, what is picked: the document's way. -/
namespace Go.Proofs.YtmfbcgheffdghaaGreat
open Go.Vam Go.Qm
set_option linter.unusedVariables false
set_option linter.unusedSimpArgs false
set_option maxRecDepth 8000
set_option maxHeartbeats 4000000

theorem ok_ref15OverO (l : List Named) (q : Named) (bl : l.length * 80 ≤ 140737488355328) (kl : ∀ p ∈ l, okN p) (kq : okN q) : Ok Tryz.prog 57 [namedsA l, namedA q] 
    (match overN l q with
     | some r => .mix [namedA r.1] 36 5 (namedsC r.2) [boolA true]
     | none => .mix [namedA namedZ] 36 5 [] [boolA false]) := by
  (refine Ok.code hT hM (fn := Tryz.f57) rfl rfl rfl _ _ rfl rfl (Nat.le_of_ble_eq_true rfl) fun E hE hP ht h0 hrd => ?_; refine Go.run hE 9000 ?_; simp only [Tryz.f57, evX, reduceIte, reduceCtorEq, Nat.reduceLT, Nat.reduceAdd, Nat.reduceEqDiff, Nat.reduceBEq, Nat.reduceLeDiff, Nat.reduceMul, ttL, tyL, ht])
  refine AppG.by hE 9000 rfl rfl (by simp [rowLen]) (by simp; omega) ?_
  simp only [evX, reduceIte, reduceCtorEq, Nat.reduceLT, Nat.reduceAdd, Nat.reduceEqDiff, Nat.reduceBEq, Nat.reduceLeDiff, Nat.reduceMul, ttL, tyL, ht]
  refine Loop.by hE (ι := {s : Nat × Named × List Named // s.1 ≤ l.length ∧ overN (l.drop s.1) q = some (s.2.1, s.2.2)}) (fun s => ⟨41, [(3, .ptr 0 0), (4, .ptr 1 0), (7, .own 2), (8, intA ((s.1.1 : Int) - 1))], [.cells ((namedC s.1.2.1).map .c), .cells [.c (.sc (.int .i64 0)), .c (.sc (.int .i64 0)), .nil, .c (.sc (.string ⟨#[]⟩)), .nil], .rows 36 5 (namedsC (l.take s.1.1 ++ s.1.2.2))], [], []⟩) (fun s => s.1.1) ⟨(l.length, q, []), Nat.le_refl _, by simp [overN]⟩ 9000 ⟨[0, 1, 2], ?_⟩ (by simp [h0]) ?_
  · refine Wk.of rfl (by simp) (by rw [h0]; simp [fixB]) ?_ ?_ (by simp) (by simp)
    · simp [wkT, okA, Vam.look, sig]
      rw [wrap64 (by omega) (by omega)]
    · simp [wkBs, setBx, nthB, wkBx, wkL, okA, sig, wkT, Vam.look, List.take_length]
  · rintro ⟨⟨j, x, l'⟩, hj, hone⟩
    simp only at hj hone
    simp only [evX, reduceIte, reduceCtorEq, Nat.reduceLT, Nat.reduceAdd, Nat.reduceEqDiff, Nat.reduceBEq, Nat.reduceLeDiff, Nat.reduceMul, ttL, tyL, ht]
    ((first | refine SelF.byN (fun hb => ?_) (fun hb => ?_) | refine SelF.by (fun hb => ?_) (fun hb => ?_)) <;> simp only [hb, evX, reduceIte, reduceCtorEq, Nat.reduceLT, Nat.reduceAdd, Nat.reduceEqDiff, Nat.reduceBEq, Nat.reduceLeDiff, Nat.reduceMul, ttL, tyL, ht])
    · simp only [decide_eq_true_eq] at hb
      have hj0 : 0 < j := by omega
      have hjm : j - 1 < l.length := by omega
      rw [show ((j : Int) - 1) = ((j - 1 : Nat) : Int) by omega]
      have hrow : (namedsC (l.take j ++ l'))[j - 1]? = some (namedC l[j - 1]) := by
        rw [List.getElem?_map, List.getElem?_append_left (by simp; omega), List.getElem?_take_of_lt (by omega), List.getElem?_eq_getElem hjm]
        rfl
      have hlen : j - 1 < (namedsC (l.take j ++ l')).length := by simp; omega
      obtain ⟨kx, kl'⟩ := overN_keep okN_pass hone (fun p hp => kl p (List.mem_of_mem_drop hp)) kq
      have kp := kl _ (List.getElem_mem hjm)
      refine IdxO.by hE 9000 (by omega) (by omega) ?_
      simp only [evX, reduceIte, reduceCtorEq, Nat.reduceLT, Nat.reduceAdd, Nat.reduceEqDiff, Nat.reduceBEq, Nat.reduceLeDiff, Nat.reduceMul, ttL, tyL, ht]
      refine LdO.by hE (j := j - 1) (row := namedC l[j - 1]) 9000 hrow (by simp) (by simp) ?_
      try simp only [Int.toNat_natCast, Nat.sub_self]
      simp only [evX, reduceIte, reduceCtorEq, Nat.reduceLT, Nat.reduceAdd, Nat.reduceEqDiff, Nat.reduceBEq, Nat.reduceLeDiff, Nat.reduceMul, ttL, tyL, ht]
      (refine CallG.ok hE 9000 (hP ▸ ok_ref15Pass l[j - 1] x kp kx) rfl rfl ?_ <;> simp only [evX, reduceIte, reduceCtorEq, Nat.reduceLT, Nat.reduceAdd, Nat.reduceEqDiff, Nat.reduceBEq, Nat.reduceLeDiff, Nat.reduceMul, ttL, tyL, ht])
      refine StG.byX hE ht 9000 rfl rfl ?_
      simp only [evX, reduceIte, reduceCtorEq, Nat.reduceLT, Nat.reduceAdd, Nat.reduceEqDiff, Nat.reduceBEq, Nat.reduceLeDiff, Nat.reduceMul, ttL, tyL, ht]
      refine StG.byX hE ht 9000 rfl rfl ?_
      simp only [evX, reduceIte, reduceCtorEq, Nat.reduceLT, Nat.reduceAdd, Nat.reduceEqDiff, Nat.reduceBEq, Nat.reduceLeDiff, Nat.reduceMul, ttL, tyL, ht]
      refine ⟨by kernel_rfl, ?_⟩
      cases hs : (passNT l[j - 1] x).2.2
      · simp only [evX, reduceIte, reduceCtorEq, Nat.reduceLT, Nat.reduceAdd, Nat.reduceEqDiff, Nat.reduceBEq, Nat.reduceLeDiff, Nat.reduceMul, ttL, tyL, ht, Bool.not_false]
        have hpn : passN l[j - 1] x = none := by
          cases h : passN l[j - 1] x with
          | none => rfl
          | some r => rw [passNT, h] at hs; simp at hs
        have e : overN l q = none := overN_fail hjm (by rw [show j - 1 + 1 = j by omega]; exact hone) hpn
        rw [e]
        (refine StG.by hE ht 9000 rfl ?_ <;> simp only [evX, reduceIte, reduceCtorEq, Nat.reduceLT, Nat.reduceAdd, Nat.reduceEqDiff, Nat.reduceBEq, Nat.reduceLeDiff, Nat.reduceMul, ttL, tyL, ht])
        exact RetQ.mix3n (.inr rfl) (cellV rfl rfl rfl rfl rfl rfl rfl rfl rfl) (tmpV rfl) (tmpV rfl) rfl rfl rfl
      · simp only [evX, reduceIte, reduceCtorEq, Nat.reduceLT, Nat.reduceAdd, Nat.reduceEqDiff, Nat.reduceBEq, Nat.reduceLeDiff, Nat.reduceMul, ttL, tyL, ht, Bool.not_true]
        (refine StG.by hE ht 9000 rfl ?_ <;> simp only [evX, reduceIte, reduceCtorEq, Nat.reduceLT, Nat.reduceAdd, Nat.reduceEqDiff, Nat.reduceBEq, Nat.reduceLeDiff, Nat.reduceMul, ttL, tyL, ht])
        refine IdxO.by hE 9000 (by omega) (by omega) ?_
        simp only [evX, reduceIte, reduceCtorEq, Nat.reduceLT, Nat.reduceAdd, Nat.reduceEqDiff, Nat.reduceBEq, Nat.reduceLeDiff, Nat.reduceMul, ttL, tyL, ht]
        refine StG.byO hE ht (j := j - 1) (row := namedC l[j - 1]) 9000 rfl rfl rfl rfl rfl hrow rfl (by simp) (by simp [tyL]) ?_
        simp only [evX, reduceIte, reduceCtorEq, Nat.reduceLT, Nat.reduceAdd, Nat.reduceEqDiff, Nat.reduceBEq, Nat.reduceLeDiff, Nat.reduceMul, ttL, tyL, ht]
        have hpp := passNT_some hs
        rw [set_at hj0 hjm]
        refine ⟨⟨(j - 1, (passNT l[j - 1] x).1, (passNT l[j - 1] x).2.1 :: l'), by simp only; omega, overN_step hjm (by rw [show j - 1 + 1 = j by omega]; exact hone) hpp⟩, [0, 1, 2], Wk.of rfl (by simp) (by rw [h0]; simp [fixB]) ?_ ?_ (by simp) (by simp), by simp only; omega⟩
        · simp [wkT, okA, Vam.look, sig]
          rw [wrap64 (by omega) (by omega)]
        · simp [wkBs, nthB, wkBx, wkL, okA, sig, wkT, Vam.look]
    · have hj0 : j = 0 := by simp at hb; omega
      subst hj0
      have e : overN l q = some (x, l') := by simpa using hone
      rw [e]
      (refine StG.by hE ht 9000 rfl ?_ <;> simp only [evX, reduceIte, reduceCtorEq, Nat.reduceLT, Nat.reduceAdd, Nat.reduceEqDiff, Nat.reduceBEq, Nat.reduceLeDiff, Nat.reduceMul, ttL, tyL, ht])
      exact RetQ.mix3 (.inr rfl) (cellV rfl rfl rfl rfl rfl rfl rfl rfl rfl) (tmpV rfl) (tmpV rfl) rfl rfl rfl rfl rfl rfl
theorem ok_ref16Part (l : List Named) (ids : List Qm.Id) (bl : l.length * 80 ≤ 140737488355328) (kl : ∀ p ∈ l, okN p) (hi : ids.length < 9223372036854775807) : Ok Tryz.prog 41 [namedsA l, idsA ids] (.v (.tup [namedsA (partN l ids).1, namedsA (partN l ids).2])) := by
  (refine Ok.code hT hM (fn := Tryz.f41) rfl rfl rfl _ _ rfl rfl (Nat.le_of_ble_eq_true rfl) fun E hE hP ht h0 hrd => ?_; refine Go.run hE 9000 ?_; simp only [Tryz.f41, evX, reduceIte, reduceCtorEq, Nat.reduceLT, Nat.reduceAdd, Nat.reduceEqDiff, Nat.reduceBEq, Nat.reduceLeDiff, Nat.reduceMul, ttL, tyL, ht])
  refine Go.nilT 6 36 5 rfl ?_
  refine Go.nilT 7 36 5 rfl ?_
  refine Loop.by hE (ι := {i : Nat // i ≤ l.length}) (fun i => ⟨55, [(0, namedsA l), (1, idsA ids), (6, .own 0), (7, .own 1), (8, intA (i.1 : Int))], [.rows 36 5 (namedsC (partN (l.take i.1) ids).1), .rows 36 5 (namedsC (partN (l.take i.1) ids).2)], [], [1]⟩) (fun i => l.length - i.1) ⟨0, by simp⟩ 9000 ⟨[0, 1], Wk.of rfl (by simp) (by rw [h0]; simp [fixB]) (by simp [wkT, okA, wkP, cloE, Vam.look, sig, partN]) (by simp [wkBs, setBx, nthB, wkBx, wkL, okA, wkP, cloE, sig, partN]) (by simp) (by simp)⟩ (by simp [h0]) ?_
  rintro ⟨i, hi⟩
  have hi : i ≤ l.length := hi
  obtain ⟨k1, k2⟩ := part_ok (ids := ids) (l := l.take i) fun p hp => kl p (List.mem_of_mem_take hp)
  have kle := part_len (ids := ids) (l.take i)
  rw [List.length_take, Nat.min_eq_left hi] at kle
  have hnx := fun h => part_take (ids := ids) (l := l) (i := i) h
  generalize hpt : partN (l.take i) ids = s at k1 k2 kle hnx
  obtain ⟨st, be⟩ := s
  simp only at k1 k2 kle
  simp only [evX, reduceIte, reduceCtorEq, Nat.reduceLT, Nat.reduceAdd, Nat.reduceEqDiff, Nat.reduceBEq, Nat.reduceLeDiff, Nat.reduceMul, ttL, tyL, ht]
  ((first | refine SelF.byN (fun hb => ?_) (fun hb => ?_) | refine SelF.by (fun hb => ?_) (fun hb => ?_)) <;> simp only [hb, evX, reduceIte, reduceCtorEq, Nat.reduceLT, Nat.reduceAdd, Nat.reduceEqDiff, Nat.reduceBEq, Nat.reduceLeDiff, Nat.reduceMul, ttL, tyL, ht])
  · simp only [decide_eq_true_eq] at hb
    have hlt : i < l.length := by omega
    have hnx := hnx hlt
    have kp := kl _ (List.getElem_mem hlt)
    refine IdxR.nat hE 9000 hlt rfl ?_
    simp only [evX, reduceIte, reduceCtorEq, Nat.reduceLT, Nat.reduceAdd, Nat.reduceEqDiff, Nat.reduceBEq, Nat.reduceLeDiff, Nat.reduceMul, ttL, tyL, ht]
    (refine CallG.ok hE 9000 (hP ▸ ok_ref16In ids l[i].id (by omega)) rfl rfl ?_ <;> simp only [evX, reduceIte, reduceCtorEq, Nat.reduceLT, Nat.reduceAdd, Nat.reduceEqDiff, Nat.reduceBEq, Nat.reduceLeDiff, Nat.reduceMul, ttL, tyL, ht])
    refine IdxR.nat hE 9000 hlt rfl ?_
    simp only [evX, reduceIte, reduceCtorEq, Nat.reduceLT, Nat.reduceAdd, Nat.reduceEqDiff, Nat.reduceBEq, Nat.reduceLeDiff, Nat.reduceMul, ttL, tyL, ht]
    have hov := ok_ref15OverO be l[i] (by omega) k2 kp
    have hdef : (ids.any fun y => idEq y l[i].id) = inIds ids l[i] := rfl
    rw [hdef]
    cases ho : overN be l[i] with
    | none =>
      rw [ho] at hov
      have hst : partN (l.take (i + 1)) ids = (st, be ++ [l[i]]) := by rw [hnx, partS, ho]; simp
      (refine CallG.ok hE 9000 (hP ▸ hov) rfl rfl ?_ <;> simp only [evX, reduceIte, reduceCtorEq, Nat.reduceLT, Nat.reduceAdd, Nat.reduceEqDiff, Nat.reduceBEq, Nat.reduceLeDiff, Nat.reduceMul, ttL, tyL, ht])
      simp only [retE, evX, reduceIte, reduceCtorEq, Nat.reduceLT, Nat.reduceAdd, Nat.reduceEqDiff, Nat.reduceBEq, Nat.reduceLeDiff, Nat.reduceMul, ttL, tyL, ht]
      (refine StG.by hE ht 9000 rfl ?_ <;> simp only [evX, reduceIte, reduceCtorEq, Nat.reduceLT, Nat.reduceAdd, Nat.reduceEqDiff, Nat.reduceBEq, Nat.reduceLeDiff, Nat.reduceMul, ttL, tyL, ht])
      cases hin : inIds ids l[i] <;> simp only [evX, reduceIte, reduceCtorEq, Nat.reduceLT, Nat.reduceAdd, Nat.reduceEqDiff, Nat.reduceBEq, Nat.reduceLeDiff, Nat.reduceMul, ttL, tyL, ht, Bool.not_false, Bool.not_true]
      all_goals
        refine IdxR.nat hE 9000 hlt rfl ?_
        simp only [evX, reduceIte, reduceCtorEq, Nat.reduceLT, Nat.reduceAdd, Nat.reduceEqDiff, Nat.reduceBEq, Nat.reduceLeDiff, Nat.reduceMul, ttL, tyL, ht]
        refine AppG.by hE 9000 rfl rfl (by simp [rowLen]) (by simp; omega) ?_
        simp only [evX, reduceIte, reduceCtorEq, Nat.reduceLT, Nat.reduceAdd, Nat.reduceEqDiff, Nat.reduceBEq, Nat.reduceLeDiff, Nat.reduceMul, ttL, tyL, ht]
        refine ⟨⟨i + 1, by omega⟩, [0, 5], Wk.of rfl (by simp) (by rw [h0]; simp [fixB]) (by simp [wkT, okA, wkP, cloE, Vam.look, sig, wrapN i (by omega), hst]) (by simp [wkBs, setBx, nthB, wkBx, wkL, okA, wkP, cloE, sig, wrapN i (by omega), hst]) (by simp) (by simp), by simp only; omega⟩
    | some r =>
      obtain ⟨y, m⟩ := r
      rw [ho] at hov
      (refine CallG.ok hE 9000 (hP ▸ hov) rfl rfl ?_ <;> simp only [evX, reduceIte, reduceCtorEq, Nat.reduceLT, Nat.reduceAdd, Nat.reduceEqDiff, Nat.reduceBEq, Nat.reduceLeDiff, Nat.reduceMul, ttL, tyL, ht])
      simp only [retE, evX, reduceIte, reduceCtorEq, Nat.reduceLT, Nat.reduceAdd, Nat.reduceEqDiff, Nat.reduceBEq, Nat.reduceLeDiff, Nat.reduceMul, ttL, tyL, ht]
      (refine StG.by hE ht 9000 rfl ?_ <;> simp only [evX, reduceIte, reduceCtorEq, Nat.reduceLT, Nat.reduceAdd, Nat.reduceEqDiff, Nat.reduceBEq, Nat.reduceLeDiff, Nat.reduceMul, ttL, tyL, ht])
      cases hin : inIds ids l[i] <;> simp only [evX, reduceIte, reduceCtorEq, Nat.reduceLT, Nat.reduceAdd, Nat.reduceEqDiff, Nat.reduceBEq, Nat.reduceLeDiff, Nat.reduceMul, ttL, tyL, ht, Bool.not_false, Bool.not_true]
      · have hst : partN (l.take (i + 1)) ids = (st ++ [y], m) := by rw [hnx, partS, ho]; simp [hin]
        refine AppG.by hE 9000 rfl rfl (by simp [rowLen]) (by simp; omega) ?_
        simp only [evX, reduceIte, reduceCtorEq, Nat.reduceLT, Nat.reduceAdd, Nat.reduceEqDiff, Nat.reduceBEq, Nat.reduceLeDiff, Nat.reduceMul, ttL, tyL, ht]
        refine ⟨⟨i + 1, by omega⟩, [5, 2], Wk.of rfl (by simp) (by rw [h0]; simp [fixB]) (by simp [wkT, okA, wkP, cloE, Vam.look, sig, wrapN i (by omega), hst]) (by simp [wkBs, setBx, nthB, wkBx, wkL, okA, wkP, cloE, sig, wrapN i (by omega), hst]) (by simp) (by simp), by simp only; omega⟩
      · have hst : partN (l.take (i + 1)) ids = (st, be ++ [l[i]]) := by rw [hnx, partS, ho]; simp [hin]
        refine IdxR.nat hE 9000 hlt rfl ?_
        simp only [evX, reduceIte, reduceCtorEq, Nat.reduceLT, Nat.reduceAdd, Nat.reduceEqDiff, Nat.reduceBEq, Nat.reduceLeDiff, Nat.reduceMul, ttL, tyL, ht]
        refine AppG.by hE 9000 rfl rfl (by simp [rowLen]) (by simp; omega) ?_
        simp only [evX, reduceIte, reduceCtorEq, Nat.reduceLT, Nat.reduceAdd, Nat.reduceEqDiff, Nat.reduceBEq, Nat.reduceLeDiff, Nat.reduceMul, ttL, tyL, ht]
        refine ⟨⟨i + 1, by omega⟩, [0, 5], Wk.of rfl (by simp) (by rw [h0]; simp [fixB]) (by simp [wkT, okA, wkP, cloE, Vam.look, sig, wrapN i (by omega), hst]) (by simp [wkBs, setBx, nthB, wkBx, wkL, okA, wkP, cloE, sig, wrapN i (by omega), hst]) (by simp) (by simp), by simp only; omega⟩
  · have hi' : i = l.length := by simp at hb; omega
    subst hi'
    rw [List.take_length] at hpt
    rw [hpt]
    exact RetQ.two (.inr rfl) rfl rfl rfl rfl
end Go.Proofs.YtmfbcgheffdghaaGreat
