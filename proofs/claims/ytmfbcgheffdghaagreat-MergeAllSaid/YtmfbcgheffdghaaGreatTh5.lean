/- Named patches that pass one another, the document's way. -/
import Derived.Test.YtmfbcgheffdghaaGreatS11
namespace Go.Proofs.YtmfbcgheffdghaaGreat
open Go.Vam Go.Qm
set_option linter.unusedVariables false
set_option linter.unusedSimpArgs false
set_option maxRecDepth 8000
set_option maxHeartbeats 2000000

theorem passLT_someD {a b : List Prim} (h : (passLT a b).2.2 = true) : passL a b = some ((passLT a b).1, (passLT a b).2.1) := by
  unfold passLT at h ⊢
  split at h
  · rename_i r e; exact e
  · simp at h
theorem ok_ref15Pass (p q : Named) (kp : okN p) (kq : okN q) : Ok Tryz.prog 72 [namedA p, namedA q] (.v (.tup [namedA (passNT p q).1, namedA (passNT p q).2.1, boolA (passNT p q).2.2])) := by
  have h1 := kp.b.2.1
  have h2 := kq.b.2.1
  have h3 := kq.b.1
  simp only [Big] at h1 h2 h3
  (refine Ok.code hT hM (fn := Tryz.f72) rfl rfl rfl _ _ rfl rfl (Nat.le_of_ble_eq_true rfl) fun E hE hP ht h0 hrd => ?_; refine Go.run hE 9000 ?_; simp only [Tryz.f72, evX, reduceIte, reduceCtorEq, Nat.reduceLT, Nat.reduceAdd, Nat.reduceEqDiff, Nat.reduceBEq, Nat.reduceLeDiff, Nat.reduceMul, ttL, tyL, ht])
  (refine StG.by hE ht 9000 rfl ?_ <;> simp only [evX, reduceIte, reduceCtorEq, Nat.reduceLT, Nat.reduceAdd, Nat.reduceEqDiff, Nat.reduceBEq, Nat.reduceLeDiff, Nat.reduceMul, ttL, tyL, ht])
  refine Loop.by hE (ι := {i : Nat // i ≤ q.deps.length ∧ (q.deps.take i).any (fun y => idEq y p.id) = false}) (fun i => ⟨49, [(2, .ptr 0 0), (3, .ptr 1 0), (4, .ptr 2 0), (5, .ptr 3 0), (6, .c (.sc (.bool false))), (7, .ptr 4 0), (8, intA (i.1 : Int))], [.cells ((namedC p).map .c), .cells ((namedC q).map .c), .cells [.c (.sc (.int .i64 0)), .c (.sc (.int .i64 0)), .nil, .c (.sc (.string ⟨#[]⟩)), .nil], .cells [.c (.sc (.int .i64 0)), .c (.sc (.int .i64 0)), .nil, .c (.sc (.string ⟨#[]⟩)), .nil], .cells ((namedC namedZ).map .c)], [], []⟩) (fun i => q.deps.length - i.1) ⟨0, by simp⟩ 9000 ⟨[0, 1, 2, 3, 4], Wk.of rfl (by simp) (by rw [h0]; simp [fixB]) (by simp [wkT, okA, wkP, cloE, Vam.look, sig, namedZ]) (by simp [wkBs, setBx, nthB, wkBx, wkL, okA, wkP, cloE, sig, namedZ]) (by simp) (by simp)⟩ (by simp [h0]) ?_
  rintro ⟨i, hi, hall⟩
  simp only [evX, reduceIte, reduceCtorEq, Nat.reduceLT, Nat.reduceAdd, Nat.reduceEqDiff, Nat.reduceBEq, Nat.reduceLeDiff, Nat.reduceMul, ttL, tyL, ht]
  ((first | refine SelF.byN (fun hb => ?_) (fun hb => ?_) | refine SelF.by (fun hb => ?_) (fun hb => ?_)) <;> simp only [hb, evX, reduceIte, reduceCtorEq, Nat.reduceLT, Nat.reduceAdd, Nat.reduceEqDiff, Nat.reduceBEq, Nat.reduceLeDiff, Nat.reduceMul, ttL, tyL, ht])
  · simp only [decide_eq_true_eq] at hb
    have hlt : i < q.deps.length := by omega
    refine IdxR.nat hE 9000 hlt rfl ?_
    simp only [evX, reduceIte, reduceCtorEq, Nat.reduceLT, Nat.reduceAdd, Nat.reduceEqDiff, Nat.reduceBEq, Nat.reduceLeDiff, Nat.reduceMul, ttL, tyL, ht]
    (refine HardOp.eqI hE 9000 rfl (hP ▸ eqT) rfl ?_ <;> simp only [evX, reduceIte, reduceCtorEq, Nat.reduceLT, Nat.reduceAdd, Nat.reduceEqDiff, Nat.reduceBEq, Nat.reduceLeDiff, Nat.reduceMul, ttL, tyL, ht])
    refine ⟨by kernel_rfl, ?_⟩
    have hc : (q.deps[i].who == p.id.who && q.deps[i].no == p.id.no) = idEq q.deps[i] p.id := rfl
    simp only [hc, evX, reduceIte, reduceCtorEq, Nat.reduceLT, Nat.reduceAdd, Nat.reduceEqDiff, Nat.reduceBEq, Nat.reduceLeDiff, Nat.reduceMul, ttL, tyL, ht]
    ((first | refine SelF.byN (fun hb => ?_) (fun hb => ?_) | refine SelF.by (fun hb => ?_) (fun hb => ?_)) <;> simp only [hb, evX, reduceIte, reduceCtorEq, Nat.reduceLT, Nat.reduceAdd, Nat.reduceEqDiff, Nat.reduceBEq, Nat.reduceLeDiff, Nat.reduceMul, ttL, tyL, ht])
    · have e : passNT p q = (namedZ, namedZ, false) := by rw [passNT, passN_deps (List.any_eq_true.2 ⟨q.deps[i], List.getElem_mem hlt, hb⟩)]
      rw [e]
      (refine StG.byX hE ht 9000 rfl rfl ?_ <;> simp only [evX, reduceIte, reduceCtorEq, Nat.reduceLT, Nat.reduceAdd, Nat.reduceEqDiff, Nat.reduceBEq, Nat.reduceLeDiff, Nat.reduceMul, ttL, tyL, ht])
      (refine StG.byX hE ht 9000 rfl rfl ?_ <;> simp only [evX, reduceIte, reduceCtorEq, Nat.reduceLT, Nat.reduceAdd, Nat.reduceEqDiff, Nat.reduceBEq, Nat.reduceLeDiff, Nat.reduceMul, ttL, tyL, ht])
      refine ⟨by kernel_rfl, ?_⟩
      exact RetQ.cct (.inr rfl) (cellV rfl rfl rfl rfl rfl rfl rfl rfl rfl) (cellV rfl rfl rfl rfl rfl rfl rfl rfl rfl) rfl rfl
    · refine ⟨⟨i + 1, by omega, by rw [any_take hlt, hall, hb]; rfl⟩, [0, 1, 2, 3, 4], Wk.of rfl (by simp) (by rw [h0]; simp [fixB]) (by simp [wkT, okA, wkP, cloE, Vam.look, sig, wrapN i (by omega)]) (by simp [wkBs, setBx, nthB, wkBx, wkL, okA, wkP, cloE, sig, wrapN i (by omega)]) (by simp) (by simp), by simp only; omega⟩
  · have hi' : q.deps.length ≤ i := by simpa using hb
    rw [List.take_of_length_le hi'] at hall
    (refine CallG.ok hE 9000 (hP ▸ ok_ref10Pass p.l q.l (by omega) (by omega) kp.l kq.l) rfl rfl ?_ <;> simp only [evX, reduceIte, reduceCtorEq, Nat.reduceLT, Nat.reduceAdd, Nat.reduceEqDiff, Nat.reduceBEq, Nat.reduceLeDiff, Nat.reduceMul, ttL, tyL, ht])
    cases hs : (passLT p.l q.l).2.2
    · simp only [evX, reduceIte, reduceCtorEq, Nat.reduceLT, Nat.reduceAdd, Nat.reduceEqDiff, Nat.reduceBEq, Nat.reduceLeDiff, Nat.reduceMul, ttL, tyL, ht, Bool.not_false]
      have hn : passL p.l q.l = none := by
        cases h : passL p.l q.l with
        | none => rfl
        | some r => rw [passLT, h] at hs; simp at hs
      have e : passNT p q = (namedZ, namedZ, false) := by rw [passNT, passN, hn]; simp
      rw [e]
      (refine StG.byX hE ht 9000 rfl rfl ?_ <;> simp only [evX, reduceIte, reduceCtorEq, Nat.reduceLT, Nat.reduceAdd, Nat.reduceEqDiff, Nat.reduceBEq, Nat.reduceLeDiff, Nat.reduceMul, ttL, tyL, ht])
      (refine StG.byX hE ht 9000 rfl rfl ?_ <;> simp only [evX, reduceIte, reduceCtorEq, Nat.reduceLT, Nat.reduceAdd, Nat.reduceEqDiff, Nat.reduceBEq, Nat.reduceLeDiff, Nat.reduceMul, ttL, tyL, ht])
      refine ⟨by kernel_rfl, ?_⟩
      exact RetQ.cct (.inr rfl) (cellV rfl rfl rfl rfl rfl rfl rfl rfl rfl) (cellV rfl rfl rfl rfl rfl rfl rfl rfl rfl) rfl rfl
    · simp only [evX, reduceIte, reduceCtorEq, Nat.reduceLT, Nat.reduceAdd, Nat.reduceEqDiff, Nat.reduceBEq, Nat.reduceLeDiff, Nat.reduceMul, ttL, tyL, ht, Bool.not_true]
      have ho := passLT_someD hs
      have e : passNT p q = (withL q (passLT p.l q.l).1, withL p (passLT p.l q.l).2.1, true) := passNT_of (passN_iff.2 ⟨hall, _, _, ho, rfl, rfl⟩)
      rw [e]
      (refine StG.by hE ht 9000 rfl ?_ <;> simp only [evX, reduceIte, reduceCtorEq, Nat.reduceLT, Nat.reduceAdd, Nat.reduceEqDiff, Nat.reduceBEq, Nat.reduceLeDiff, Nat.reduceMul, ttL, tyL, ht])
      (refine StG.by hE ht 9000 rfl ?_ <;> simp only [evX, reduceIte, reduceCtorEq, Nat.reduceLT, Nat.reduceAdd, Nat.reduceEqDiff, Nat.reduceBEq, Nat.reduceLeDiff, Nat.reduceMul, ttL, tyL, ht])
      (refine StG.byX hE ht 9000 rfl rfl ?_ <;> simp only [evX, reduceIte, reduceCtorEq, Nat.reduceLT, Nat.reduceAdd, Nat.reduceEqDiff, Nat.reduceBEq, Nat.reduceLeDiff, Nat.reduceMul, ttL, tyL, ht])
      (refine StG.byX hE ht 9000 rfl rfl ?_ <;> simp only [evX, reduceIte, reduceCtorEq, Nat.reduceLT, Nat.reduceAdd, Nat.reduceEqDiff, Nat.reduceBEq, Nat.reduceLeDiff, Nat.reduceMul, ttL, tyL, ht])
      refine ⟨by kernel_rfl, ?_⟩
      exact RetQ.cct (.inr rfl) (cellV rfl rfl rfl rfl rfl rfl rfl rfl rfl) (cellV rfl rfl rfl rfl rfl rfl rfl rfl rfl) rfl rfl
theorem set_at {m l' : List Named} {j : Nat} {y : Named} (hj : 0 < j) (hjm : j - 1 < m.length) : (namedsC (m.take j ++ l')).set (j - 1) (List.take ((((j - 1 : Nat) : Int)).toNat * 5 - (j - 1) * 5) (namedC m[j - 1]) ++ namedC y) = namedsC (m.take (j - 1) ++ y :: l') := by
  have e1 : m.take j = m.take (j - 1) ++ [m[j - 1]] := by
    conv => lhs; rw [show j = j - 1 + 1 by omega]
    rw [List.take_add_one, List.getElem?_eq_getElem hjm]
    rfl
  rw [Int.toNat_natCast, Nat.sub_self, List.take_zero, List.nil_append, e1]
  simp only [namedsC, List.map_append, List.append_assoc, List.map_cons, List.map_nil, List.singleton_append]
  have e2 : (List.map namedC (List.take (j - 1) m)).length = j - 1 := by simp; omega
  rw [List.set_append_right _ _ (by omega), e2, Nat.sub_self]
  rfl
def overNT (l : List Named) (q : Named) : Named × List Named × Bool := match overN l q with
  | some r => (r.1, r.2, true)
  | none => (namedZ, [], false)
theorem ok_ref15Over (l : List Named) (q : Named) (bl : l.length * 80 ≤ 140737488355328) (kl : ∀ p ∈ l, okN p) (kq : okN q) : Ok Tryz.prog 57 [namedsA l, namedA q] (.v (.tup [namedA (overNT l q).1, namedsA (overNT l q).2.1, boolA (overNT l q).2.2])) := by
  (refine Ok.code hT hM (fn := Tryz.f57) rfl rfl rfl _ _ rfl rfl (Nat.le_of_ble_eq_true rfl) fun E hE hP ht h0 hrd => ?_; refine Go.run hE 9000 ?_; simp only [Tryz.f57, evX, reduceIte, reduceCtorEq, Nat.reduceLT, Nat.reduceAdd, Nat.reduceEqDiff, Nat.reduceBEq, Nat.reduceLeDiff, Nat.reduceMul, ttL, tyL, ht])
  refine AppG.by hE 9000 rfl rfl (by simp [rowLen]) (by simp; omega) ?_
  simp only [evX, reduceIte, reduceCtorEq, Nat.reduceLT, Nat.reduceAdd, Nat.reduceEqDiff, Nat.reduceBEq, Nat.reduceLeDiff, Nat.reduceMul, ttL, tyL, ht]
  refine Loop.by hE (ι := {s : Nat × Named × List Named // s.1 ≤ l.length ∧ overN (l.drop s.1) q = some (s.2.1, s.2.2)}) (fun s => ⟨41, [(3, .ptr 0 0), (4, .ptr 1 0), (7, .own 2), (8, intA ((s.1.1 : Int) - 1))], [.cells ((namedC s.1.2.1).map .c), .cells [.c (.sc (.int .i64 0)), .c (.sc (.int .i64 0)), .nil, .c (.sc (.string ⟨#[]⟩)), .nil], .rows 36 5 (namedsC (l.take s.1.1 ++ s.1.2.2))], [], []⟩) (fun s => s.1.1) ⟨(l.length, q, []), Nat.le_refl _, by simp [overN]⟩ 9000 ⟨[0, 1, 2], ?_⟩ (by simp [h0]) ?_
  · refine Wk.of rfl (by simp) (by rw [h0]; simp [fixB]) ?_ ?_ (by simp) (by simp)
    · simp [wkT, okA, Vam.look, sig]
      rw [wrap64 (by omega) (by omega)]
    · simp [wkBs, setBx, nthB, wkBx, wkL, okA, sig, wkT, Vam.look, List.take_length]
  · rintro ⟨⟨j, x, l'⟩, hj, hone⟩
    simp only at hj hone
    simp only [evX, reduceIte, reduceCtorEq, Nat.reduceLT, Nat.reduceAdd, Nat.reduceEqDiff, Nat.reduceBEq, Nat.reduceLeDiff, Nat.reduceMul, ttL, tyL, ht]
    ((first | refine SelF.byN (fun hb => ?_) (fun hb => ?_) | refine SelF.by (fun hb => ?_) (fun hb => ?_)) <;> simp only [hb, evX, reduceIte, reduceCtorEq, Nat.reduceLT, Nat.reduceAdd, Nat.reduceEqDiff, Nat.reduceBEq, Nat.reduceLeDiff, Nat.reduceMul, ttL, tyL, ht])
    · simp only [decide_eq_true_eq] at hb
      have hj0 : 0 < j := by omega
      have hjm : j - 1 < l.length := by omega
      rw [show ((j : Int) - 1) = ((j - 1 : Nat) : Int) by omega]
      have hrow : (namedsC (l.take j ++ l'))[j - 1]? = some (namedC l[j - 1]) := by
        rw [List.getElem?_map, List.getElem?_append_left (by simp; omega), List.getElem?_take_of_lt (by omega), List.getElem?_eq_getElem hjm]
        rfl
      have hlen : j - 1 < (namedsC (l.take j ++ l')).length := by simp; omega
      obtain ⟨kx, kl'⟩ := overN_keep okN_pass hone (fun p hp => kl p (List.mem_of_mem_drop hp)) kq
      have kp := kl _ (List.getElem_mem hjm)
      refine IdxO.by hE 9000 (by omega) (by omega) ?_
      simp only [evX, reduceIte, reduceCtorEq, Nat.reduceLT, Nat.reduceAdd, Nat.reduceEqDiff, Nat.reduceBEq, Nat.reduceLeDiff, Nat.reduceMul, ttL, tyL, ht]
      refine LdO.by hE (j := j - 1) (row := namedC l[j - 1]) 9000 hrow (by simp) (by simp) ?_
      try simp only [Int.toNat_natCast, Nat.sub_self]
      simp only [evX, reduceIte, reduceCtorEq, Nat.reduceLT, Nat.reduceAdd, Nat.reduceEqDiff, Nat.reduceBEq, Nat.reduceLeDiff, Nat.reduceMul, ttL, tyL, ht]
      (refine CallG.ok hE 9000 (hP ▸ ok_ref15Pass l[j - 1] x kp kx) rfl rfl ?_ <;> simp only [evX, reduceIte, reduceCtorEq, Nat.reduceLT, Nat.reduceAdd, Nat.reduceEqDiff, Nat.reduceBEq, Nat.reduceLeDiff, Nat.reduceMul, ttL, tyL, ht])
      refine StG.byX hE ht 9000 rfl rfl ?_
      simp only [evX, reduceIte, reduceCtorEq, Nat.reduceLT, Nat.reduceAdd, Nat.reduceEqDiff, Nat.reduceBEq, Nat.reduceLeDiff, Nat.reduceMul, ttL, tyL, ht]
      refine StG.byX hE ht 9000 rfl rfl ?_
      simp only [evX, reduceIte, reduceCtorEq, Nat.reduceLT, Nat.reduceAdd, Nat.reduceEqDiff, Nat.reduceBEq, Nat.reduceLeDiff, Nat.reduceMul, ttL, tyL, ht]
      refine ⟨by kernel_rfl, ?_⟩
      cases hs : (passNT l[j - 1] x).2.2
      · simp only [evX, reduceIte, reduceCtorEq, Nat.reduceLT, Nat.reduceAdd, Nat.reduceEqDiff, Nat.reduceBEq, Nat.reduceLeDiff, Nat.reduceMul, ttL, tyL, ht, Bool.not_false]
        have hpn : passN l[j - 1] x = none := by
          cases h : passN l[j - 1] x with
          | none => rfl
          | some r => rw [passNT, h] at hs; simp at hs
        have e : overNT l q = (namedZ, [], false) := by rw [overNT, overN_fail hjm (by rw [show j - 1 + 1 = j by omega]; exact hone) hpn]
        rw [e]
        (refine StG.by hE ht 9000 rfl ?_ <;> simp only [evX, reduceIte, reduceCtorEq, Nat.reduceLT, Nat.reduceAdd, Nat.reduceEqDiff, Nat.reduceBEq, Nat.reduceLeDiff, Nat.reduceMul, ttL, tyL, ht])
        exact RetQ.gen3 (.inr rfl) (cellV rfl rfl rfl rfl rfl rfl rfl rfl rfl) (tmpV rfl) (tmpV rfl) rfl rfl
      · simp only [evX, reduceIte, reduceCtorEq, Nat.reduceLT, Nat.reduceAdd, Nat.reduceEqDiff, Nat.reduceBEq, Nat.reduceLeDiff, Nat.reduceMul, ttL, tyL, ht, Bool.not_true]
        (refine StG.by hE ht 9000 rfl ?_ <;> simp only [evX, reduceIte, reduceCtorEq, Nat.reduceLT, Nat.reduceAdd, Nat.reduceEqDiff, Nat.reduceBEq, Nat.reduceLeDiff, Nat.reduceMul, ttL, tyL, ht])
        refine IdxO.by hE 9000 (by omega) (by omega) ?_
        simp only [evX, reduceIte, reduceCtorEq, Nat.reduceLT, Nat.reduceAdd, Nat.reduceEqDiff, Nat.reduceBEq, Nat.reduceLeDiff, Nat.reduceMul, ttL, tyL, ht]
        refine StG.byO hE ht (j := j - 1) (row := namedC l[j - 1]) 9000 rfl rfl rfl rfl rfl hrow rfl (by simp) (by simp [tyL]) ?_
        simp only [evX, reduceIte, reduceCtorEq, Nat.reduceLT, Nat.reduceAdd, Nat.reduceEqDiff, Nat.reduceBEq, Nat.reduceLeDiff, Nat.reduceMul, ttL, tyL, ht]
        have hpp := passNT_some hs
        rw [set_at hj0 hjm]
        refine ⟨⟨(j - 1, (passNT l[j - 1] x).1, (passNT l[j - 1] x).2.1 :: l'), by simp only; omega, overN_step hjm (by rw [show j - 1 + 1 = j by omega]; exact hone) hpp⟩, [0, 1, 2], Wk.of rfl (by simp) (by rw [h0]; simp [fixB]) ?_ ?_ (by simp) (by simp), by simp only; omega⟩
        · simp [wkT, okA, Vam.look, sig]
          rw [wrap64 (by omega) (by omega)]
        · simp [wkBs, nthB, wkBx, wkL, okA, sig, wkT, Vam.look]
    · have hj0 : j = 0 := by simp at hb; omega
      subst hj0
      have e : overNT l q = (x, l', true) := by rw [overNT, show overN l q = some (x, l') by simpa using hone]
      rw [e]
      (refine StG.by hE ht 9000 rfl ?_ <;> simp only [evX, reduceIte, reduceCtorEq, Nat.reduceLT, Nat.reduceAdd, Nat.reduceEqDiff, Nat.reduceBEq, Nat.reduceLeDiff, Nat.reduceMul, ttL, tyL, ht])
      exact RetQ.gen3 (.inr rfl) (cellV rfl rfl rfl rfl rfl rfl rfl rfl rfl) (tmpV rfl) (tmpV rfl) rfl rfl
end Go.Proofs.YtmfbcgheffdghaaGreat
