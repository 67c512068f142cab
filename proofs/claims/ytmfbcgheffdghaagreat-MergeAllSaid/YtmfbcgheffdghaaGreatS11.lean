/- The program's functions, walked (part 11). -/
import Derived.Test.YtmfbcgheffdghaaGreatS10
import Derived.Test.YtmfbcgheffdghaaGreatS8
import Derived.Test.YtmfbcgheffdghaaGreatG10
import Derived.Test.YtmfbcgheffdghaaGreatS6
import Derived.Test.YtmfbcgheffdghaaGreatS5
/- The laws of named patches that pass one another, upon trees. -/
namespace Go.Proofs.YtmfbcgheffdghaaGreat
open Go.Vam Go.Qm
set_option linter.unusedVariables false
set_option linter.unusedSimpArgs false
set_option maxRecDepth 8000
set_option maxHeartbeats 2000000

theorem named2 {p q : Named} (kp : okN p) (kq : okN q) : namedsB [p, q] ∧ ∀ x ∈ [p, q], namedR x := by
  refine ⟨⟨by simp [Big], fun x hx => ?_⟩, fun x hx => ?_⟩
  · simp only [List.mem_cons, List.not_mem_nil, or_false] at hx
    rcases hx with rfl | rfl
    · exact kp.b
    · exact kq.b
  · simp only [List.mem_cons, List.not_mem_nil, or_false] at hx
    rcases hx with rfl | rfl
    · exact kp.r
    · exact kq.r
theorem passNT_len {p q : Named} {n : Nat} (h1 : p.l.length ≤ n) (h2 : q.l.length ≤ n) : (passNT p q).1.l.length ≤ n ∧ (passNT p q).2.1.l.length ≤ n := by
  unfold passNT
  split
  · rename_i r e
    obtain ⟨_, _, _, k1, _, _, _, k2⟩ := passN_same e
    exact ⟨by simp only; omega, by simp only; omega⟩
  · simp [namedZ]
theorem fewN_mem {l : List Named} {n : Int} (h : fewN l n = true) (p : Named) (hp : p ∈ l) : p.l.length ≤ 10 := by
  simp only [fewN, Bool.and_eq_true, List.all_eq_true] at h
  have h2 := h.2 p hp
  simp only [lightN, Bool.and_eq_true] at h2
  have := few_len h2.1.1
  omega
theorem allN_two (p q : Named) : allN [p, q] = p.l ++ q.l := by simp [allN]
end Go.Proofs.YtmfbcgheffdghaaGreat

/- Lists of changes that pass one another, the document's way. -/
namespace Go.Proofs.YtmfbcgheffdghaaGreat
open Go.Vam Go.Qm
set_option linter.unusedVariables false
set_option linter.unusedSimpArgs false
set_option maxRecDepth 8000
set_option maxHeartbeats 2000000

theorem ok_ref10Turn (l : List Prim) (hl : l.length * 96 ≤ 140737488355328) (hB : ∀ p ∈ l, primB p) : Ok Tryz.prog 42 [primsA l] (.v (primsA (l.reverse.map turnP))) := by
  (refine Ok.code hT hM (fn := Tryz.f42) rfl rfl rfl _ _ rfl rfl (Nat.le_of_ble_eq_true rfl) fun E hE hP ht h0 hrd => ?_; refine Go.run hE 9000 ?_; simp only [Tryz.f42, evX, reduceIte, reduceCtorEq, Nat.reduceLT, Nat.reduceAdd, Nat.reduceEqDiff, Nat.reduceBEq, Nat.reduceLeDiff, Nat.reduceMul, ttL, tyL, ht])
  refine Go.nilT 3 50 6 rfl ?_
  refine Loop.by hE (ι := {i : Nat // i ≤ l.length}) (fun i => ⟨21, [(0, primsA l), (3, .own 0), (4, intA ((i.1 : Int) - 1))], [.rows 50 6 (primsC ((l.drop i.1).reverse.map turnP))], [], []⟩) (fun i => i.1) ⟨l.length, Nat.le_refl _⟩ 9000 ⟨[0], ?_⟩ (by simp [h0]) ?_
  · refine Wk.of rfl (by simp) (by rw [h0]; simp [fixB]) ?_ ?_ (by simp) (by simp)
    · simp [wkT, okA, Vam.look, sig]
      rw [wrap64 (by omega) (by omega)]
    · simp [wkBs, setBx, nthB, wkBx, wkL, okA, sig, wkT, Vam.look, List.drop_length]
  · rintro ⟨i, hi⟩
    simp only [evX, reduceIte, reduceCtorEq, Nat.reduceLT, Nat.reduceAdd, Nat.reduceEqDiff, Nat.reduceBEq, Nat.reduceLeDiff, Nat.reduceMul, ttL, tyL, ht]
    ((first | refine SelF.byN (fun hb => ?_) (fun hb => ?_) | refine SelF.by (fun hb => ?_) (fun hb => ?_)) <;> simp only [hb, evX, reduceIte, reduceCtorEq, Nat.reduceLT, Nat.reduceAdd, Nat.reduceEqDiff, Nat.reduceBEq, Nat.reduceLeDiff, Nat.reduceMul, ttL, tyL, ht])
    · simp only [decide_eq_true_eq] at hb
      have hi0 : 0 < i := by omega
      have hlt : i - 1 < l.length := by omega
      rw [show ((i : Int) - 1) = ((i - 1 : Nat) : Int) by omega]
      refine IdxR.nat hE 9000 hlt rfl ?_
      simp only [evX, reduceIte, reduceCtorEq, Nat.reduceLT, Nat.reduceAdd, Nat.reduceEqDiff, Nat.reduceBEq, Nat.reduceLeDiff, Nat.reduceMul, ttL, tyL, ht]
      (refine CallG.ok hE 9000 (hP ▸ ok_refTurnP l[i - 1] (hB _ (List.getElem_mem hlt))) rfl rfl ?_ <;> simp only [evX, reduceIte, reduceCtorEq, Nat.reduceLT, Nat.reduceAdd, Nat.reduceEqDiff, Nat.reduceBEq, Nat.reduceLeDiff, Nat.reduceMul, ttL, tyL, ht])
      refine AppG.by hE 9000 rfl rfl (by simp [rowLen]) (by simp; omega) ?_
      simp only [evX, reduceIte, reduceCtorEq, Nat.reduceLT, Nat.reduceAdd, Nat.reduceEqDiff, Nat.reduceBEq, Nat.reduceLeDiff, Nat.reduceMul, ttL, tyL, ht]
      have e : primsC ((l.drop i).reverse.map turnP) ++ [primC (turnP l[i - 1])] = primsC ((l.drop (i - 1)).reverse.map turnP) := by
        rw [List.drop_eq_getElem_cons hlt, show i - 1 + 1 = i by omega]
        simp
      rw [e]
      refine ⟨⟨i - 1, by omega⟩, [2], Wk.of rfl (by simp) (by rw [h0]; simp [fixB]) ?_ ?_ (by simp) (by simp), by simp only; omega⟩
      · simp [wkT, okA, Vam.look, sig]
        rw [wrap64 (by omega) (by omega)]
      · simp [wkBs, nthB, wkBx, wkL, okA, sig, wkT, Vam.look]
    · have hi0 : i = 0 := by simp at hb; omega
      subst hi0
      exact RetQ.ownV (.inr rfl) rfl rfl rfl rfl
def passOneT (l : List Prim) (q : Prim) : Prim × List Prim × Bool := match passOne l q with
  | some r => (r.1, r.2, true)
  | none => (primZ, [], false)
theorem ok_ref10one (l : List Prim) (q : Prim) (bl : l.length * 96 ≤ 140737488355328) (kl : ∀ p ∈ l, okP p) (kq : okP q) : Ok Tryz.prog 59 [primsA l, primA q] (.v (.tup [primA (passOneT l q).1, primsA (passOneT l q).2.1, boolA (passOneT l q).2.2])) := by
  (refine Ok.code hT hM (fn := Tryz.f59) rfl rfl rfl _ _ rfl rfl (Nat.le_of_ble_eq_true rfl) fun E hE hP ht h0 hrd => ?_; refine Go.run hE 9000 ?_; simp only [Tryz.f59, evX, reduceIte, reduceCtorEq, Nat.reduceLT, Nat.reduceAdd, Nat.reduceEqDiff, Nat.reduceBEq, Nat.reduceLeDiff, Nat.reduceMul, ttL, tyL, ht])
  refine AppG.by hE 9000 rfl rfl (by simp [rowLen]) (by simp; omega) ?_
  simp only [evX, reduceIte, reduceCtorEq, Nat.reduceLT, Nat.reduceAdd, Nat.reduceEqDiff, Nat.reduceBEq, Nat.reduceLeDiff, Nat.reduceMul, ttL, tyL, ht]
  refine Loop.by hE (ι := {s : Nat × Prim × List Prim // s.1 ≤ l.length ∧ passOne (l.drop s.1) q = some (s.2.1, s.2.2)}) (fun s => ⟨41, [(3, .ptr 0 0), (4, .ptr 1 0), (7, .own 2), (8, intA ((s.1.1 : Int) - 1))], [.cells ((primC s.1.2.1).map .c), .cells [.c (.sc (.int .i64 0)), .c (.sc (.string ⟨#[]⟩)), .c (.sc (.string ⟨#[]⟩)), .c (.sc (.int .i64 0)), .nil, .nil], .rows 50 6 (primsC (l.take s.1.1 ++ s.1.2.2))], [], []⟩) (fun s => s.1.1) ⟨(l.length, q, []), Nat.le_refl _, by simp [passOne]⟩ 9000 ⟨[0, 1, 2], ?_⟩ (by simp [h0]) ?_
  · refine Wk.of rfl (by simp) (by rw [h0]; simp [fixB]) ?_ ?_ (by simp) (by simp)
    · simp [wkT, okA, Vam.look, sig]
      rw [wrap64 (by omega) (by omega)]
    · simp [wkBs, setBx, nthB, wkBx, wkL, okA, sig, wkT, Vam.look, List.take_length]
  · rintro ⟨⟨j, x, l'⟩, hj, hone⟩
    simp only at hj hone
    simp only [evX, reduceIte, reduceCtorEq, Nat.reduceLT, Nat.reduceAdd, Nat.reduceEqDiff, Nat.reduceBEq, Nat.reduceLeDiff, Nat.reduceMul, ttL, tyL, ht]
    ((first | refine SelF.byN (fun hb => ?_) (fun hb => ?_) | refine SelF.by (fun hb => ?_) (fun hb => ?_)) <;> simp only [hb, evX, reduceIte, reduceCtorEq, Nat.reduceLT, Nat.reduceAdd, Nat.reduceEqDiff, Nat.reduceBEq, Nat.reduceLeDiff, Nat.reduceMul, ttL, tyL, ht])
    · simp only [decide_eq_true_eq] at hb
      have hj0 : 0 < j := by omega
      have hjm : j - 1 < l.length := by omega
      rw [show ((j : Int) - 1) = ((j - 1 : Nat) : Int) by omega]
      have hrow : (primsC (l.take j ++ l'))[j - 1]? = some (primC l[j - 1]) := by
        rw [List.getElem?_map, List.getElem?_append_left (by simp; omega), List.getElem?_take_of_lt (by omega), List.getElem?_eq_getElem hjm]
        rfl
      have hlen : j - 1 < (primsC (l.take j ++ l')).length := by simp; omega
      obtain ⟨kx, kl'⟩ := passOne_keep okP_pass hone (fun p hp => kl p (List.mem_of_mem_drop hp)) kq
      have kp := kl _ (List.getElem_mem hjm)
      refine IdxO.by hE 9000 (by omega) (by omega) ?_
      simp only [evX, reduceIte, reduceCtorEq, Nat.reduceLT, Nat.reduceAdd, Nat.reduceEqDiff, Nat.reduceBEq, Nat.reduceLeDiff, Nat.reduceMul, ttL, tyL, ht]
      refine LdO.by hE (j := j - 1) (row := primC l[j - 1]) 9000 hrow (by simp) (by simp) ?_
      try simp only [Int.toNat_natCast, Nat.sub_self]
      simp only [evX, reduceIte, reduceCtorEq, Nat.reduceLT, Nat.reduceAdd, Nat.reduceEqDiff, Nat.reduceBEq, Nat.reduceLeDiff, Nat.reduceMul, ttL, tyL, ht]
      (refine CallG.ok hE 9000 (hP ▸ ok_ref09Pass l[j - 1] x kp.1 kx.1 kp.2 kx.2) rfl rfl ?_ <;> simp only [evX, reduceIte, reduceCtorEq, Nat.reduceLT, Nat.reduceAdd, Nat.reduceEqDiff, Nat.reduceBEq, Nat.reduceLeDiff, Nat.reduceMul, ttL, tyL, ht])
      refine StG.byX hE ht 9000 rfl rfl ?_
      simp only [evX, reduceIte, reduceCtorEq, Nat.reduceLT, Nat.reduceAdd, Nat.reduceEqDiff, Nat.reduceBEq, Nat.reduceLeDiff, Nat.reduceMul, ttL, tyL, ht]
      refine StG.byX hE ht 9000 rfl rfl ?_
      simp only [evX, reduceIte, reduceCtorEq, Nat.reduceLT, Nat.reduceAdd, Nat.reduceEqDiff, Nat.reduceBEq, Nat.reduceLeDiff, Nat.reduceMul, ttL, tyL, ht]
      refine ⟨by kernel_rfl, ?_⟩
      cases hs : (passPT l[j - 1] x).2.2
      · simp only [evX, reduceIte, reduceCtorEq, Nat.reduceLT, Nat.reduceAdd, Nat.reduceEqDiff, Nat.reduceBEq, Nat.reduceLeDiff, Nat.reduceMul, ttL, tyL, ht, Bool.not_false]
        have hpn : passP l[j - 1] x = none := by
          cases h : passP l[j - 1] x with
          | none => rfl
          | some r => rw [passPT, h] at hs; simp at hs
        have e : passOneT l q = (primZ, [], false) := by rw [passOneT, passOne_fail hjm (by rw [show j - 1 + 1 = j by omega]; exact hone) hpn]
        rw [e]
        (refine StG.by hE ht 9000 rfl ?_ <;> simp only [evX, reduceIte, reduceCtorEq, Nat.reduceLT, Nat.reduceAdd, Nat.reduceEqDiff, Nat.reduceBEq, Nat.reduceLeDiff, Nat.reduceMul, ttL, tyL, ht])
        exact RetQ.gen3 (.inr rfl) (cellV rfl rfl rfl rfl rfl rfl rfl rfl rfl) (tmpV rfl) (tmpV rfl) rfl rfl
      · simp only [evX, reduceIte, reduceCtorEq, Nat.reduceLT, Nat.reduceAdd, Nat.reduceEqDiff, Nat.reduceBEq, Nat.reduceLeDiff, Nat.reduceMul, ttL, tyL, ht, Bool.not_true]
        (refine StG.by hE ht 9000 rfl ?_ <;> simp only [evX, reduceIte, reduceCtorEq, Nat.reduceLT, Nat.reduceAdd, Nat.reduceEqDiff, Nat.reduceBEq, Nat.reduceLeDiff, Nat.reduceMul, ttL, tyL, ht])
        refine IdxO.by hE 9000 (by omega) (by omega) ?_
        simp only [evX, reduceIte, reduceCtorEq, Nat.reduceLT, Nat.reduceAdd, Nat.reduceEqDiff, Nat.reduceBEq, Nat.reduceLeDiff, Nat.reduceMul, ttL, tyL, ht]
        refine StG.byO hE ht (j := j - 1) (row := primC l[j - 1]) 9000 rfl rfl rfl rfl rfl hrow rfl (by simp) (by simp [tyL]) ?_
        simp only [evX, reduceIte, reduceCtorEq, Nat.reduceLT, Nat.reduceAdd, Nat.reduceEqDiff, Nat.reduceBEq, Nat.reduceLeDiff, Nat.reduceMul, ttL, tyL, ht]
        have hpp := passPT_some hs
        have hset : (primsC (l.take j ++ l')).set (j - 1) (List.take ((((j - 1 : Nat) : Int)).toNat * 6 - (j - 1) * 6) (primC l[j - 1]) ++ primC (passPT l[j - 1] x).2.1) = primsC (l.take (j - 1) ++ (passPT l[j - 1] x).2.1 :: l') := by
          have e1 : l.take j = l.take (j - 1) ++ [l[j - 1]] := by
            conv => lhs; rw [show j = j - 1 + 1 by omega]
            rw [List.take_add_one, List.getElem?_eq_getElem hjm]
            rfl
          rw [Int.toNat_natCast, Nat.sub_self, List.take_zero, List.nil_append, e1]
          simp only [primsC, List.map_append, List.append_assoc, List.map_cons, List.map_nil, List.singleton_append]
          have e2 : (List.map primC (List.take (j - 1) l)).length = j - 1 := by simp; omega
          rw [List.set_append_right _ _ (by omega), e2, Nat.sub_self]
          rfl
        rw [hset]
        refine ⟨⟨(j - 1, (passPT l[j - 1] x).1, (passPT l[j - 1] x).2.1 :: l'), by simp only; omega, passOne_step hjm (by rw [show j - 1 + 1 = j by omega]; exact hone) hpp⟩, [0, 1, 2], Wk.of rfl (by simp) (by rw [h0]; simp [fixB]) ?_ ?_ (by simp) (by simp), by simp only; omega⟩
        · simp [wkT, okA, Vam.look, sig]
          rw [wrap64 (by omega) (by omega)]
        · simp [wkBs, nthB, wkBx, wkL, okA, sig, wkT, Vam.look]
    · have hj0 : j = 0 := by simp at hb; omega
      subst hj0
      have e : passOneT l q = (x, l', true) := by rw [passOneT, show passOne l q = some (x, l') by simpa using hone]
      rw [e]
      (refine StG.by hE ht 9000 rfl ?_ <;> simp only [evX, reduceIte, reduceCtorEq, Nat.reduceLT, Nat.reduceAdd, Nat.reduceEqDiff, Nat.reduceBEq, Nat.reduceLeDiff, Nat.reduceMul, ttL, tyL, ht])
      exact RetQ.gen3 (.inr rfl) (cellV rfl rfl rfl rfl rfl rfl rfl rfl rfl) (tmpV rfl) (tmpV rfl) rfl rfl
theorem ok_ref10Pass (a b : List Prim) (ba : a.length * 96 ≤ 140737488355328) (bb : b.length * 96 ≤ 140737488355328) (ka : ∀ p ∈ a, okP p) (kb : ∀ p ∈ b, okP p) : Ok Tryz.prog 44 [primsA a, primsA b] (.v (.tup [primsA (passLT a b).1, primsA (passLT a b).2.1, boolA (passLT a b).2.2])) := by
  (refine Ok.code hT hM (fn := Tryz.f44) rfl rfl rfl _ _ rfl rfl (Nat.le_of_ble_eq_true rfl) fun E hE hP ht h0 hrd => ?_; refine Go.run hE 9000 ?_; simp only [Tryz.f44, evX, reduceIte, reduceCtorEq, Nat.reduceLT, Nat.reduceAdd, Nat.reduceEqDiff, Nat.reduceBEq, Nat.reduceLeDiff, Nat.reduceMul, ttL, tyL, ht])
  refine Go.nilT 7 50 6 rfl ?_
  refine Loop.by hE (ι := {s : Nat × List Prim × List Prim // s.1 ≤ b.length ∧ passL a (b.take s.1) = some (s.2.1, s.2.2)}) (fun s => ⟨37, [(0, primsA s.1.2.2), (1, primsA b), (7, .own 0), (8, intA s.1.1)], [.rows 50 6 (primsC s.1.2.1)], [], []⟩) (fun s => b.length - s.1.1) ⟨(0, [], a), by simp [passL]⟩ 9000 ⟨[0], Wk.of rfl (by simp) (by rw [h0]; simp [fixB]) (by simp [wkT, okA, wkP, cloE, Vam.look, sig, ]) (by simp [wkBs, setBx, nthB, wkBx, wkL, okA, wkP, cloE, sig, ]) (by simp) (by simp)⟩ (by simp [h0]) ?_
  rintro ⟨⟨i, f, m⟩, hi, hpass⟩
  simp only at hi hpass
  simp only [evX, reduceIte, reduceCtorEq, Nat.reduceLT, Nat.reduceAdd, Nat.reduceEqDiff, Nat.reduceBEq, Nat.reduceLeDiff, Nat.reduceMul, ttL, tyL, ht]
  ((first | refine SelF.byN (fun hb => ?_) (fun hb => ?_) | refine SelF.by (fun hb => ?_) (fun hb => ?_)) <;> simp only [hb, evX, reduceIte, reduceCtorEq, Nat.reduceLT, Nat.reduceAdd, Nat.reduceEqDiff, Nat.reduceBEq, Nat.reduceLeDiff, Nat.reduceMul, ttL, tyL, ht])
  · simp only [decide_eq_true_eq] at hb
    have hlt : i < b.length := by omega
    have kb' : ∀ p ∈ b.take i, okP p := fun p hp => kb p (List.mem_of_mem_take hp)
    obtain ⟨kf, km⟩ := passL_keep okP_pass hpass ka kb'
    obtain ⟨hfl, hml⟩ := passL_len hpass
    have kq : okP b[i] := kb _ (List.getElem_mem hlt)
    refine IdxR.nat hE 9000 hlt rfl ?_
    simp only [evX, reduceIte, reduceCtorEq, Nat.reduceLT, Nat.reduceAdd, Nat.reduceEqDiff, Nat.reduceBEq, Nat.reduceLeDiff, Nat.reduceMul, ttL, tyL, ht]
    (refine CallG.ok hE 9000 (hP ▸ ok_ref10one m b[i] (by omega) km kq) rfl rfl ?_ <;> simp only [evX, reduceIte, reduceCtorEq, Nat.reduceLT, Nat.reduceAdd, Nat.reduceEqDiff, Nat.reduceBEq, Nat.reduceLeDiff, Nat.reduceMul, ttL, tyL, ht])
    (refine StG.by hE ht 9000 rfl ?_ <;> simp only [evX, reduceIte, reduceCtorEq, Nat.reduceLT, Nat.reduceAdd, Nat.reduceEqDiff, Nat.reduceBEq, Nat.reduceLeDiff, Nat.reduceMul, ttL, tyL, ht])
    cases hs : (passOneT m b[i]).2.2
    · simp only [evX, reduceIte, reduceCtorEq, Nat.reduceLT, Nat.reduceAdd, Nat.reduceEqDiff, Nat.reduceBEq, Nat.reduceLeDiff, Nat.reduceMul, ttL, tyL, ht, Bool.not_false]
      have hn : passOne m b[i] = none := by
        cases h : passOne m b[i] with
        | none => rfl
        | some r => rw [passOneT, h] at hs; simp at hs
      have e : passLT a b = ([], [], false) := by rw [passLT, passL_fail hlt hpass hn]
      rw [e]
      exact RetQ.three (.inr rfl) rfl rfl rfl rfl rfl
    · have ho : passOne m b[i] = some ((passOneT m b[i]).1, (passOneT m b[i]).2.1) := by
        cases h : passOne m b[i] with
        | none => rw [passOneT, h] at hs; simp at hs
        | some r => rw [passOneT, h]
      have hst := passL_step hlt hpass ho
      simp only [evX, reduceIte, reduceCtorEq, Nat.reduceLT, Nat.reduceAdd, Nat.reduceEqDiff, Nat.reduceBEq, Nat.reduceLeDiff, Nat.reduceMul, ttL, tyL, ht, Bool.not_true]
      refine AppG.by hE 9000 rfl rfl (by simp [rowLen]) (by simp; simp at hfl; omega) ?_
      simp only [evX, reduceIte, reduceCtorEq, Nat.reduceLT, Nat.reduceAdd, Nat.reduceEqDiff, Nat.reduceBEq, Nat.reduceLeDiff, Nat.reduceMul, ttL, tyL, ht]
      rw [show primsC f ++ [primC (passOneT m b[i]).1] = primsC (f ++ [(passOneT m b[i]).1]) by simp]
      refine ⟨⟨(i + 1, f ++ [(passOneT m b[i]).1], (passOneT m b[i]).2.1), by omega, hst⟩, [3], Wk.of rfl (by simp) (by rw [h0]; simp [fixB]) (by simp [wkT, okA, wkP, cloE, Vam.look, sig, wrapN i (by omega)]) (by simp [wkBs, setBx, nthB, wkBx, wkL, okA, wkP, cloE, sig, wrapN i (by omega)]) (by simp) (by simp), by simp only; omega⟩
  · have hi' : i = b.length := by simp at hb; omega
    subst hi'
    have e : passLT a b = (f, m, true) := by
      simp only [List.take_length] at hpass
      rw [passLT, hpass]
    rw [e]
    exact RetQ.three (.inr rfl) rfl rfl rfl rfl rfl
end Go.Proofs.YtmfbcgheffdghaaGreat

/- A tree that changes change, the document's way. -/
namespace Go.Proofs.YtmfbcgheffdghaaGreat
open Go.Vam Go.Qm
set_option linter.unusedVariables false
set_option linter.unusedSimpArgs false
set_option maxRecDepth 8000
set_option maxHeartbeats 2000000

end Go.Proofs.YtmfbcgheffdghaaGreat

/- Many named patches, the document's way. -/
namespace Go.Proofs.YtmfbcgheffdghaaGreat
open Go.Vam Go.Qm
set_option linter.unusedVariables false
set_option linter.unusedSimpArgs false
set_option maxRecDepth 8000
set_option maxHeartbeats 2000000

theorem ok_ref14Find (l : List Named) (x : Qm.Id) (hl : l.length < 9223372036854775807) : Ok Tryz.prog 45 [namedsA l, idA x] (.v (intA (findN l x))) := by
  (refine Ok.code hT hM (fn := Tryz.f45) rfl rfl rfl _ _ rfl rfl (Nat.le_of_ble_eq_true rfl) fun E hE hP ht h0 hrd => ?_; refine Go.run hE 9000 ?_; simp only [Tryz.f45, evX, reduceIte, reduceCtorEq, Nat.reduceLT, Nat.reduceAdd, Nat.reduceEqDiff, Nat.reduceBEq, Nat.reduceLeDiff, Nat.reduceMul, ttL, tyL, ht])
  refine Loop.by hE (ι := {i : Nat // i ≤ l.length ∧ (l.take i).any (fun p => idEq p.id x) = false}) (fun i => ⟨20, [(0, namedsA l), (3, .ptr 0 0), (5, intA i.1)], [.cells ((idC x).map .c)], [], []⟩) (fun i => l.length - i.1) ⟨0, by simp⟩ 9000 ⟨[0], Wk.of rfl (by simp) (by rw [h0]; simp [fixB]) (by simp [wkT, okA, wkP, cloE, Vam.look, sig, ]) (by simp [wkBs, setBx, nthB, wkBx, wkL, okA, wkP, cloE, sig, ]) (by simp) (by simp)⟩ (by simp [h0]) ?_
  rintro ⟨i, hi, hall⟩
  simp only [evX, reduceIte, reduceCtorEq, Nat.reduceLT, Nat.reduceAdd, Nat.reduceEqDiff, Nat.reduceBEq, Nat.reduceLeDiff, Nat.reduceMul, ttL, tyL, ht]
  ((first | refine SelF.byN (fun hb => ?_) (fun hb => ?_) | refine SelF.by (fun hb => ?_) (fun hb => ?_)) <;> simp only [hb, evX, reduceIte, reduceCtorEq, Nat.reduceLT, Nat.reduceAdd, Nat.reduceEqDiff, Nat.reduceBEq, Nat.reduceLeDiff, Nat.reduceMul, ttL, tyL, ht])
  · simp only [decide_eq_true_eq] at hb
    have hlt : i < l.length := by omega
    refine IdxR.nat hE 9000 hlt rfl ?_
    simp only [evX, reduceIte, reduceCtorEq, Nat.reduceLT, Nat.reduceAdd, Nat.reduceEqDiff, Nat.reduceBEq, Nat.reduceLeDiff, Nat.reduceMul, ttL, tyL, ht]
    (refine HardOp.eqI hE 9000 rfl (hP ▸ eqT) rfl ?_ <;> simp only [evX, reduceIte, reduceCtorEq, Nat.reduceLT, Nat.reduceAdd, Nat.reduceEqDiff, Nat.reduceBEq, Nat.reduceLeDiff, Nat.reduceMul, ttL, tyL, ht])
    refine ⟨by kernel_rfl, ?_⟩
    have hc : (l[i].id.who == x.who && l[i].id.no == x.no) = idEq l[i].id x := rfl
    simp only [hc, evX, reduceIte, reduceCtorEq, Nat.reduceLT, Nat.reduceAdd, Nat.reduceEqDiff, Nat.reduceBEq, Nat.reduceLeDiff, Nat.reduceMul, ttL, tyL, ht]
    ((first | refine SelF.byN (fun hb => ?_) (fun hb => ?_) | refine SelF.by (fun hb => ?_) (fun hb => ?_)) <;> simp only [hb, evX, reduceIte, reduceCtorEq, Nat.reduceLT, Nat.reduceAdd, Nat.reduceEqDiff, Nat.reduceBEq, Nat.reduceLeDiff, Nat.reduceMul, ttL, tyL, ht])
    · exact RetQ.c (.inr rfl) rfl (by rw [findN, idxI_at hlt hall hb])
    · refine ⟨⟨i + 1, by omega, by rw [any_take hlt, hall, hb]; rfl⟩, [0], Wk.of rfl (by simp) (by rw [h0]; simp [fixB]) (by simp [wkT, okA, wkP, cloE, Vam.look, sig, wrapN i (by omega)]) (by simp [wkBs, setBx, nthB, wkBx, wkL, okA, wkP, cloE, sig, wrapN i (by omega)]) (by simp) (by simp), by simp only; omega⟩
  · exact RetQ.c (.inr rfl) rfl (by rw [findN, idxI_none hi (by simpa using hb) hall])
theorem ok_ref14All (l : List Named) (bl : namedsB l) (hn : (allN l).length * 96 ≤ 140737488355328) : Ok Tryz.prog 43 [namedsA l] (.v (primsA (allN l))) := by
  have h1 := bl.1
  simp only [Big] at h1
  have hle : ∀ i, i ≤ l.length → (allN (l.take i)).length ≤ (allN l).length := fun i hi => by
    conv => rhs; rw [← List.take_append_drop i l, allN_append]
    simp
  (refine Ok.code hT hM (fn := Tryz.f43) rfl rfl rfl _ _ rfl rfl (Nat.le_of_ble_eq_true rfl) fun E hE hP ht h0 hrd => ?_; refine Go.run hE 9000 ?_; simp only [Tryz.f43, evX, reduceIte, reduceCtorEq, Nat.reduceLT, Nat.reduceAdd, Nat.reduceEqDiff, Nat.reduceBEq, Nat.reduceLeDiff, Nat.reduceMul, ttL, tyL, ht])
  refine Go.nilT 3 50 6 rfl ?_
  refine Loop.by hE (ι := {i : Nat // i ≤ l.length}) (fun i => ⟨19, [(0, namedsA l), (3, .own 0), (4, intA i.1)], [.rows 50 6 (primsC (allN (l.take i.1)))], [], []⟩) (fun i => l.length - i.1) ⟨0, by simp⟩ 9000 ⟨[0], Wk.of rfl (by simp) (by rw [h0]; simp [fixB]) (by simp [wkT, okA, wkP, cloE, Vam.look, sig, allN]) (by simp [wkBs, setBx, nthB, wkBx, wkL, okA, wkP, cloE, sig, allN]) (by simp) (by simp)⟩ (by simp [h0]) ?_
  rintro ⟨i, hi⟩
  simp only [evX, reduceIte, reduceCtorEq, Nat.reduceLT, Nat.reduceAdd, Nat.reduceEqDiff, Nat.reduceBEq, Nat.reduceLeDiff, Nat.reduceMul, ttL, tyL, ht]
  ((first | refine SelF.byN (fun hb => ?_) (fun hb => ?_) | refine SelF.by (fun hb => ?_) (fun hb => ?_)) <;> simp only [hb, evX, reduceIte, reduceCtorEq, Nat.reduceLT, Nat.reduceAdd, Nat.reduceEqDiff, Nat.reduceBEq, Nat.reduceLeDiff, Nat.reduceMul, ttL, tyL, ht])
  · simp only [decide_eq_true_eq] at hb
    have hlt : i < l.length := by omega
    refine IdxR.nat hE 9000 hlt rfl ?_
    simp only [evX, reduceIte, reduceCtorEq, Nat.reduceLT, Nat.reduceAdd, Nat.reduceEqDiff, Nat.reduceBEq, Nat.reduceLeDiff, Nat.reduceMul, ttL, tyL, ht]
    have hl2 := hle (i + 1) (by omega)
    rw [allN_take hlt] at hl2
    simp only [List.length_append] at hl2
    refine AppG.by hE 9000 rfl rfl (rowLen_prims _) (by simp; omega) ?_
    simp only [evX, reduceIte, reduceCtorEq, Nat.reduceLT, Nat.reduceAdd, Nat.reduceEqDiff, Nat.reduceBEq, Nat.reduceLeDiff, Nat.reduceMul, ttL, tyL, ht]
    have htk : primsC (allN (l.take i)) ++ primsC l[i].l = primsC (allN (l.take (i + 1))) := by rw [allN_take hlt, primsC, primsC, primsC, List.map_append]
    rw [htk]
    refine ⟨⟨i + 1, by omega⟩, [1], Wk.of rfl (by simp) (by rw [h0]; simp [fixB]) (by simp [wkT, okA, wkP, cloE, Vam.look, sig, wrapN i (by omega)]) (by simp [wkBs, setBx, nthB, wkBx, wkL, okA, wkP, cloE, sig, wrapN i (by omega)]) (by simp) (by simp), by simp only; omega⟩
  · have : i = l.length := by simp at hb; omega
    subst this
    exact RetQ.ownV (.inr rfl) rfl rfl rfl (by rw [List.take_length])
theorem ok_ref14List (a b : List Named) (bA : namedsB a) : Ok Tryz.prog 13 [namedsA a, namedsA b] (.v (boolA (all2 sameN a b))) := by
  have h1 := bA.1
  simp only [Big] at h1
  (refine Ok.code hT hM (fn := Tryz.f13) rfl rfl rfl _ _ rfl rfl (Nat.le_of_ble_eq_true rfl) fun E hE hP ht h0 hrd => ?_; refine Go.run hE 9000 ?_; simp only [Tryz.f13, evX, reduceIte, reduceCtorEq, Nat.reduceLT, Nat.reduceAdd, Nat.reduceEqDiff, Nat.reduceBEq, Nat.reduceLeDiff, Nat.reduceMul, ttL, tyL, ht])
  ((first | refine SelF.byN (fun hb => ?_) (fun hb => ?_) | refine SelF.by (fun hb => ?_) (fun hb => ?_)) <;> simp only [hb, evX, reduceIte, reduceCtorEq, Nat.reduceLT, Nat.reduceAdd, Nat.reduceEqDiff, Nat.reduceBEq, Nat.reduceLeDiff, Nat.reduceMul, ttL, tyL, ht])
  · exact RetQ.bool (.inr rfl) rfl (all2_ne (by simp at hb; omega)).symm
  · have hlen : a.length = b.length := by simp at hb; omega
    refine Loop.by hE (ι := {i : Nat // i ≤ a.length ∧ all2 sameN (a.take i) (b.take i) = true}) (fun i => ⟨29, [(0, namedsA a), (1, namedsA b), (4, boolA false), (5, intA i.1)], [], [], []⟩) (fun i => a.length - i.1) ⟨0, by simp [all2]⟩ 9000 ⟨[], Wk.of rfl (by simp) (by rw [h0]; trivial) (by simp [wkT, okA, wkP, cloE, Vam.look]) (by simp [wkBs]) (by simp) (by simp)⟩ (by simp [h0]) ?_
    rintro ⟨i, hi, hall⟩
    simp only [evX, reduceIte, reduceCtorEq, Nat.reduceLT, Nat.reduceAdd, Nat.reduceEqDiff, Nat.reduceBEq, Nat.reduceLeDiff, Nat.reduceMul, ttL, tyL, ht]
    ((first | refine SelF.byN (fun hb => ?_) (fun hb => ?_) | refine SelF.by (fun hb => ?_) (fun hb => ?_)) <;> simp only [hb, evX, reduceIte, reduceCtorEq, Nat.reduceLT, Nat.reduceAdd, Nat.reduceEqDiff, Nat.reduceBEq, Nat.reduceLeDiff, Nat.reduceMul, ttL, tyL, ht])
    · simp only [decide_eq_true_eq] at hb
      have hlt : i < a.length := by omega
      have hlt2 : i < b.length := by omega
      refine IdxR.nat hE 9000 hlt rfl ?_
      simp only [evX, reduceIte, reduceCtorEq, Nat.reduceLT, Nat.reduceAdd, Nat.reduceEqDiff, Nat.reduceBEq, Nat.reduceLeDiff, Nat.reduceMul, ttL, tyL, ht]
      refine IdxR.nat hE 9000 hlt2 rfl ?_
      simp only [evX, reduceIte, reduceCtorEq, Nat.reduceLT, Nat.reduceAdd, Nat.reduceEqDiff, Nat.reduceBEq, Nat.reduceLeDiff, Nat.reduceMul, ttL, tyL, ht]
      (refine CallG.ok hE 9000 (hP ▸ ok_ref14Same a[i] b[i] (bA.2 _ (List.getElem_mem hlt))) rfl rfl ?_ <;> simp only [evX, reduceIte, reduceCtorEq, Nat.reduceLT, Nat.reduceAdd, Nat.reduceEqDiff, Nat.reduceBEq, Nat.reduceLeDiff, Nat.reduceMul, ttL, tyL, ht])
      refine ⟨by kernel_rfl, ?_⟩
      ((first | refine SelF.byN (fun hb => ?_) (fun hb => ?_) | refine SelF.by (fun hb => ?_) (fun hb => ?_)) <;> simp only [hb, evX, reduceIte, reduceCtorEq, Nat.reduceLT, Nat.reduceAdd, Nat.reduceEqDiff, Nat.reduceBEq, Nat.reduceLeDiff, Nat.reduceMul, ttL, tyL, ht])
      · exact RetQ.bool (.inr rfl) rfl (all2_at hlt hlt2 hb).symm
      · refine ⟨⟨i + 1, by omega, by rw [all2_take hlt hlt2, hall]; simpa using hb⟩, [], Wk.of rfl (by simp) (by rw [h0]; trivial) (by simp [wkT, okA, wkP, cloE, Vam.look, wrapN i (by omega)]) (by simp [wkBs]) (by simp) (by simp), by simp only; omega⟩
    · exact RetQ.bool (.inr rfl) rfl (all2_full hi (by simpa using hb) hlen hall).symm
end Go.Proofs.YtmfbcgheffdghaaGreat
