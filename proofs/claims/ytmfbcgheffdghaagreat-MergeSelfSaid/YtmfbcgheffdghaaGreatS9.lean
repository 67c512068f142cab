/- The program's functions, walked (part 9). -/
import Derived.Test.YtmfbcgheffdghaaGreatS8
import Derived.Test.YtmfbcgheffdghaaGreatG12
import Derived.Test.YtmfbcgheffdghaaGreatS1
import Derived.Test.YtmfbcgheffdghaaGreatS6
/- Past many named patches: the program's way. -/
namespace Go.Proofs.YtmfbcgheffdghaaGreat
open Go.Vam Go.Qm
set_option linter.unusedVariables false
set_option linter.unusedSimpArgs false
set_option maxRecDepth 8000
set_option maxHeartbeats 4000000

theorem ok_BackwardN (l : List Named) : Ok Tryz.prog 67 [namedsA l] (.v (.c (.fn 83 [[.sl (namedsC l)]]))) := by
  (refine Ok.code hT hM (fn := Tryz.f67) rfl rfl rfl _ _ rfl rfl (Nat.le_of_ble_eq_true rfl) fun E hE hP ht h0 hrd => ?_; refine Go.run hE 9000 ?_; simp only [Tryz.f67, evX, reduceIte, reduceCtorEq, Nat.reduceLT, Nat.reduceAdd, Nat.reduceEqDiff, Nat.reduceBEq, Nat.reduceLeDiff, Nat.reduceMul, ttL, tyL, ht])
  exact RetQ.c (.inr rfl) rfl rfl
theorem ok_Over (l : List Named) (q : Named) (bl : l.length * 80 ≤ 140737488355328) (kl : ∀ p ∈ l, okN p) (kq : okN q) : Ok Tryz.prog 53 [namedsA l, namedA q]
    (match overN l q with
     | some r => .mix [namedA r.1] 36 5 (namedsC r.2) [boolA true]
     | none => .mix [namedA namedZ] 36 5 [] [boolA false]) := by
  have h3 := kq.b.1
  have h4 := kq.b.2.1
  simp only [Big] at h3 h4
  (refine Ok.code hT hM (fn := Tryz.f53) rfl rfl rfl _ _ rfl rfl (Nat.le_of_ble_eq_true rfl) fun E hE hP ht h0 hrd => ?_; refine Go.run hE 9000 ?_; simp only [Tryz.f53, evX, reduceIte, reduceCtorEq, Nat.reduceLT, Nat.reduceAdd, Nat.reduceEqDiff, Nat.reduceBEq, Nat.reduceLeDiff, Nat.reduceMul, ttL, tyL, ht])
  (refine CallG.ok hE 9000 (hP ▸ ok_Turn q.l (by omega) kq.b.2.2) rfl rfl ?_ <;> simp only [evX, reduceIte, reduceCtorEq, Nat.reduceLT, Nat.reduceAdd, Nat.reduceEqDiff, Nat.reduceBEq, Nat.reduceLeDiff, Nat.reduceMul, ttL, tyL, ht])
  (refine CallG.ok hE 9000 (hP ▸ ok_Turn (turnL q.l) (by simp; omega) (by intro p hp; obtain ⟨z, hz, rfl⟩ := List.mem_map.1 hp; exact turnP_B (kq.b.2.2 z (by simpa using hz)))) rfl rfl ?_ <;> simp only [evX, reduceIte, reduceCtorEq, Nat.reduceLT, Nat.reduceAdd, Nat.reduceEqDiff, Nat.reduceBEq, Nat.reduceLeDiff, Nat.reduceMul, ttL, tyL, ht])
  rw [turn_turn]
  (refine CallG.ok hE 9000 (hP ▸ ok_with q q.l (by omega)) rfl rfl ?_ <;> simp only [evX, reduceIte, reduceCtorEq, Nat.reduceLT, Nat.reduceAdd, Nat.reduceEqDiff, Nat.reduceBEq, Nat.reduceLeDiff, Nat.reduceMul, ttL, tyL, ht])
  refine StG.byD hE ht 9000 rfl (by kernel_rfl) ?_
  simp only [evX, reduceIte, reduceCtorEq, Nat.reduceLT, Nat.reduceAdd, Nat.reduceEqDiff, Nat.reduceBEq, Nat.reduceLeDiff, Nat.reduceMul, ttL, tyL, ht]
  (refine CallG.ok hE 9000 (hP ▸ ok_BackwardN l) rfl rfl ?_ <;> simp only [evX, reduceIte, reduceCtorEq, Nat.reduceLT, Nat.reduceAdd, Nat.reduceEqDiff, Nat.reduceBEq, Nat.reduceLeDiff, Nat.reduceMul, ttL, tyL, ht])
  refine Rng.by hE hP ht hrd (fn := Tryz.f83) rfl rfl rfl rfl _ _ rfl rfl _ rfl (Nat.le_of_ble_eq_true rfl) fun E' tm' ps' as' bd' hE' hP' ht' h0' hrd' htm hps has hbd => ?_
  refine Go.run hE' 9000 ?_
  simp only [Tryz.f83, evX, reduceIte, reduceCtorEq, Nat.reduceLT, Nat.reduceAdd, Nat.reduceEqDiff, Nat.reduceBEq, Nat.reduceLeDiff, Nat.reduceMul, ttL, tyL, ht']
  have h0' : E'.n0 = 6 := by rw [h0']; rfl
  refine Go.nilC 4 0 36 5 rfl rfl ?_
  have hwq : withL q q.l = q := rfl
  rw [hwq]
  refine Loop.by hE' (ι := {s : Nat × Named × List Named // s.1 ≤ l.length ∧ overN (l.drop s.1) q = some (s.2.1, s.2.2)}) (fun s => ⟨19, [(0, .yld 5), (1, .pt [.sl (namedsC l)]), (3, intA ((s.1.1 : Int) - 1))], [.cells ((namedC s.1.2.1).map .c), .cells [.c (.sc (.int .i64 0)), .c (.sc (.int .i64 0)), .nil, .c (.sc (.string ⟨#[]⟩)), .nil], .cells [.nil], .cells [.c (.sc (.bool false))], .cells [.own 6], .lp 44 tm' ps' as' bd' .ready none, .rows 36 5 (namedsC s.1.2.2.reverse)], [], []⟩) (fun s => s.1.1) ⟨(l.length, q, []), Nat.le_refl _, by simp [overN]⟩ 9000 ⟨[0, 1, 2, 3, 4, 5, 6], ?_⟩ (by simp [h0']) ?_
  · subst htm
    refine Wk.of rfl (by simp) (by rw [h0']; simp [fixB]) ?_ ?_ (by simp) (by simp)
    · simp [wkT, okA, Vam.look, sig]
      rw [wrap64 (by omega) (by omega)]
    · simp [wkBs, setBx, nthB, wkBx, wkL, okA, sig, wkT, Vam.look]
  · rintro ⟨⟨j, x, l'⟩, hj, hone⟩
    simp only at hj hone
    simp only [evX, reduceIte, reduceCtorEq, Nat.reduceLT, Nat.reduceAdd, Nat.reduceEqDiff, Nat.reduceBEq, Nat.reduceLeDiff, Nat.reduceMul, ttL, tyL, ht']
    ((first | refine SelF.byN (fun hb => ?_) (fun hb => ?_) | refine SelF.by (fun hb => ?_) (fun hb => ?_)) <;> simp only [hb, evX, reduceIte, reduceCtorEq, Nat.reduceLT, Nat.reduceAdd, Nat.reduceEqDiff, Nat.reduceBEq, Nat.reduceLeDiff, Nat.reduceMul, ttL, tyL, ht'])
    · simp only [decide_eq_true_eq] at hb
      have hj0 : 0 < j := by omega
      have hjm : j - 1 < l.length := by omega
      rw [show ((j : Int) - 1) = ((j - 1 : Nat) : Int) by omega]
      obtain ⟨kx, kl'⟩ := overN_keep okN_pass hone (fun p hp => kl p (List.mem_of_mem_drop hp)) kq
      have kp := kl _ (List.getElem_mem hjm)
      have hll := overN_len hone
      simp only [List.length_drop] at hll
      refine IdxR.nat hE' 9000 hjm rfl ?_
      simp only [evX, reduceIte, reduceCtorEq, Nat.reduceLT, Nat.reduceAdd, Nat.reduceEqDiff, Nat.reduceBEq, Nat.reduceLeDiff, Nat.reduceMul, ttL, tyL, ht']
      refine YldG.by hE' hP' ht' rfl rfl (by rw [hps]; rfl) (by rw [hps]; simp) fun E3 hE3 hP3 ht3 h03 => ?_
      refine Go.run hE3 9000 ?_
      simp only [htm, hps, has, hbd]
      simp only [evX, reduceIte, reduceCtorEq, Nat.reduceLT, Nat.reduceAdd, Nat.reduceEqDiff, Nat.reduceBEq, Nat.reduceLeDiff, Nat.reduceMul, ttL, tyL, ht3]
      refine StG.by hE3 ht3 9000 rfl ?_
      simp only [evX, reduceIte, reduceCtorEq, Nat.reduceLT, Nat.reduceAdd, Nat.reduceEqDiff, Nat.reduceBEq, Nat.reduceLeDiff, Nat.reduceMul, ttL, tyL, ht3]
      refine AsgQ.by hE3 9000 rfl rfl ?_
      simp only [evX, reduceIte, reduceCtorEq, Nat.reduceLT, Nat.reduceAdd, Nat.reduceEqDiff, Nat.reduceBEq, Nat.reduceLeDiff, Nat.reduceMul, ttL, tyL, ht3]
      refine CallG.ok hE3 9000 (hP3 ▸ ok_tradePass l[j - 1] x kp kx) rfl rfl ?_
      simp only [evX, reduceIte, reduceCtorEq, Nat.reduceLT, Nat.reduceAdd, Nat.reduceEqDiff, Nat.reduceBEq, Nat.reduceLeDiff, Nat.reduceMul, ttL, tyL, ht3]
      refine StG.by hE3 ht3 9000 rfl ?_
      simp only [evX, reduceIte, reduceCtorEq, Nat.reduceLT, Nat.reduceAdd, Nat.reduceEqDiff, Nat.reduceBEq, Nat.reduceLeDiff, Nat.reduceMul, ttL, tyL, ht3]
      refine StG.by hE3 ht3 9000 rfl ?_
      simp only [evX, reduceIte, reduceCtorEq, Nat.reduceLT, Nat.reduceAdd, Nat.reduceEqDiff, Nat.reduceBEq, Nat.reduceLeDiff, Nat.reduceMul, ttL, tyL, ht3]
      cases hs : passN l[j - 1] x with
      | none =>
        have e' : passNT l[j - 1] x = (namedZ, namedZ, false) := by rw [passNT, hs]
        have e : overN l q = none := overN_fail hjm (by rw [show j - 1 + 1 = j by omega]; exact hone) hs
        simp only [e', evX, reduceIte, reduceCtorEq, Nat.reduceLT, Nat.reduceAdd, Nat.reduceEqDiff, Nat.reduceBEq, Nat.reduceLeDiff, Nat.reduceMul, ttL, tyL, ht3, Bool.not_false]
        refine StG.by hE3 ht3 9000 rfl ?_
        simp only [evX, reduceIte, reduceCtorEq, Nat.reduceLT, Nat.reduceAdd, Nat.reduceEqDiff, Nat.reduceBEq, Nat.reduceLeDiff, Nat.reduceMul, ttL, tyL, ht3]
        refine StG.by hE3 ht3 9000 rfl ?_
        simp only [evX, reduceIte, reduceCtorEq, Nat.reduceLT, Nat.reduceAdd, Nat.reduceEqDiff, Nat.reduceBEq, Nat.reduceLeDiff, Nat.reduceMul, ttL, tyL, ht3]
        refine StG.by hE3 ht3 9000 rfl ?_
        simp only [evX, reduceIte, reduceCtorEq, Nat.reduceLT, Nat.reduceAdd, Nat.reduceEqDiff, Nat.reduceBEq, Nat.reduceLeDiff, Nat.reduceMul, ttL, tyL, ht3]
        refine YldQ.ret hE' 9000 rfl rfl ?_
        simp only [evX, reduceIte, reduceCtorEq, Nat.reduceLT, Nat.reduceAdd, Nat.reduceEqDiff, Nat.reduceBEq, Nat.reduceLeDiff, Nat.reduceMul, ttL, tyL, ht']
        refine RngQ.jump hE 9000 (.inr rfl) rfl (by simp only [htm]; rfl) (by simp) rfl ?_
        simp only [htm]
        simp only [evX, reduceIte, reduceCtorEq, Nat.reduceLT, Nat.reduceAdd, Nat.reduceEqDiff, Nat.reduceBEq, Nat.reduceLeDiff, Nat.reduceMul, ttL, tyL, ht]
        rw [e]
        exact RetQ.mix3n (.inr rfl) (cellV rfl rfl rfl rfl rfl rfl rfl rfl rfl) (cellS rfl rfl rfl rfl rfl rfl rfl rfl) (cellS rfl rfl rfl rfl rfl rfl rfl rfl) rfl rfl rfl
      | some r =>
        have e' : passNT l[j - 1] x = (r.1, r.2, true) := by rw [passNT, hs]
        simp only [e', evX, reduceIte, reduceCtorEq, Nat.reduceLT, Nat.reduceAdd, Nat.reduceEqDiff, Nat.reduceBEq, Nat.reduceLeDiff, Nat.reduceMul, ttL, tyL, ht3, Bool.not_true]
        refine AppG.by hE3 9000 rfl rfl (by simp [rowLen]) (by simp; omega) ?_
        simp only [evX, reduceIte, reduceCtorEq, Nat.reduceLT, Nat.reduceAdd, Nat.reduceEqDiff, Nat.reduceBEq, Nat.reduceLeDiff, Nat.reduceMul, ttL, tyL, ht3]
        refine StG.byX hE3 ht3 9000 rfl rfl ?_
        simp only [evX, reduceIte, reduceCtorEq, Nat.reduceLT, Nat.reduceAdd, Nat.reduceEqDiff, Nat.reduceBEq, Nat.reduceLeDiff, Nat.reduceMul, ttL, tyL, ht3]
        refine StG.byD hE3 ht3 9000 rfl (by kernel_rfl) ?_
        simp only [evX, reduceIte, reduceCtorEq, Nat.reduceLT, Nat.reduceAdd, Nat.reduceEqDiff, Nat.reduceBEq, Nat.reduceLeDiff, Nat.reduceMul, ttL, tyL, ht3]
        refine YldQ.normal hE' 9000 rfl rfl ?_
        simp only [evX, reduceIte, reduceCtorEq, Nat.reduceLT, Nat.reduceAdd, Nat.reduceEqDiff, Nat.reduceBEq, Nat.reduceLeDiff, Nat.reduceMul, ttL, tyL, ht']
        subst htm; subst hps; subst has; subst hbd
        refine ⟨⟨(j - 1, r.1, r.2 :: l'), by simp only; omega, overN_step hjm (by rw [show j - 1 + 1 = j by omega]; exact hone) hs⟩, [0, 1, 2, 3, 4, 5, 11], Wk.of rfl (by simp) (by rw [h0']; simp [fixB]) ?_ ?_ (by simp) (by simp), by simp only; omega⟩
        · simp [wkT, okA, Vam.look, sig]
          rw [wrap64 (by omega) (by omega)]
        · simp [wkBs, nthB, wkBx, wkL, okA, sig, wkT, Vam.look]
    · have hj0 : j = 0 := by simp at hb; omega
      subst hj0
      refine RngQ.by hE 9000 (.inl rfl) rfl rfl (by simp) rfl ?_
      simp only [htm]
      simp only [evX, reduceIte, reduceCtorEq, Nat.reduceLT, Nat.reduceAdd, Nat.reduceEqDiff, Nat.reduceBEq, Nat.reduceLeDiff, Nat.reduceMul, ttL, tyL, ht]
      have hml : l'.reverse.length = l.length := by have := overN_len hone; simpa using this
      have e : overN l q = some (x, l') := by simpa using hone
      generalize hm : l'.reverse = m at hml
      have hm' : l' = m.reverse := by rw [← hm, List.reverse_reverse]
      refine CallG.inl hE hP ht (fn := Tryz.f69) rfl rfl rfl _ _ rfl rfl _ rfl (Nat.le_of_ble_eq_true rfl) fun E' hE' hP' ht' h0' hrd' => ?_
      have h0' : E'.n0 = 7 := by rw [h0']; rfl
      refine Go.run hE' 9000 ?_
      simp only [Tryz.f69, evX, reduceIte, reduceCtorEq, Nat.reduceLT, Nat.reduceAdd, Nat.reduceEqDiff, Nat.reduceBEq, Nat.reduceLeDiff, Nat.reduceMul, ttL, tyL, ht']
      refine Loop.by hE' (ι := {i : Nat // 2 * i ≤ m.length}) (fun i => ⟨28, [(0, .own 6), (2, intA (i.1 : Int)), (3, intA ((m.length : Int) - 1 - i.1))], [.cells ((namedC x).map .c), .cells [.c (.sc (.int .i64 0)), .c (.sc (.int .i64 0)), .nil, .c (.sc (.string ⟨#[]⟩)), .nil], .cells [.nil], .cells [.c (.sc (.bool false))], .cells [.own 6], .lp 44 tm' ps' as' bd' .ready none, .rows 36 5 (namedsC (revI m i.1))], [5], []⟩) (fun i => m.length - 2 * i.1) ⟨0, by omega⟩ 9000 ⟨[0, 1, 2, 3, 4, 5, 6], ?_⟩ (by simp [h0']) ?_
      · subst htm
        refine Wk.of rfl (by simp) (by rw [h0']; simp [fixB]) ?_ ?_ (by simp) (by simp)
        · simp [wkT, okA, Vam.look, sig]
          rw [wrap64 (by omega) (by omega)]
        · simp [wkBs, nthB, wkBx, wkL, okA, sig, wkT, Vam.look, revI_zero]
      · rintro ⟨i, hi⟩
        have hi : 2 * i ≤ m.length := hi
        simp only [evX, reduceIte, reduceCtorEq, Nat.reduceLT, Nat.reduceAdd, Nat.reduceEqDiff, Nat.reduceBEq, Nat.reduceLeDiff, Nat.reduceMul, ttL, tyL, ht']
        ((first | refine SelF.byN (fun hb => ?_) (fun hb => ?_) | refine SelF.by (fun hb => ?_) (fun hb => ?_)) <;> simp only [hb, evX, reduceIte, reduceCtorEq, Nat.reduceLT, Nat.reduceAdd, Nat.reduceEqDiff, Nat.reduceBEq, Nat.reduceLeDiff, Nat.reduceMul, ttL, tyL, ht'])
        · simp only [decide_eq_true_eq] at hb
          obtain ⟨k, hk⟩ : ∃ k, k + i + 1 = m.length := ⟨m.length - 1 - i, by omega⟩
          have hki : (m.length : Int) - 1 - i = ((k : Nat) : Int) := by omega
          rw [hki] at hb ⊢
          have hkm : k < m.length := by omega
          have him : i < m.length := by omega
          have hrk : (namedsC (revI m i))[k]? = some (namedC m[k]) := by
            have h1 : k < (revI m i).length := by rw [revI_len]; exact hkm
            rw [namedsC, List.getElem?_map, List.getElem?_eq_getElem h1, revI_at hkm (by omega) (by omega)]; rfl
          have hri : (namedsC (revI m i))[i]? = some (namedC m[i]) := by
            have h1 : i < (revI m i).length := by rw [revI_len]; exact him
            rw [namedsC, List.getElem?_map, List.getElem?_eq_getElem h1, revI_at him (by omega) (by omega)]; rfl
          have hset : ((namedsC (revI m i)).set i (namedC m[k])).set k (namedC m[i]) = namedsC (revI m (i + 1)) := by
            rw [← revI_step (l := m) (i := i) (by omega)]
            have e1 : m.length - 1 - i = k := by omega
            simp only [namedsC, e1, List.map_set]
          have hln : (namedsC (revI m i)).length = m.length := by simp [namedsC, revI_len]
          refine IdxO.by hE' 9000 (by omega) (by rw [hln]; omega) ?_
          try simp only [Int.toNat_natCast, Nat.sub_self]
          simp only [evX, reduceIte, reduceCtorEq, Nat.reduceLT, Nat.reduceAdd, Nat.reduceEqDiff, Nat.reduceBEq, Nat.reduceLeDiff, Nat.reduceMul, ttL, tyL, ht']
          refine LdO.by hE' (j := k) (row := namedC m[k]) 9000 hrk (by simp) (by simp) ?_
          try simp only [Int.toNat_natCast, Nat.sub_self]
          simp only [evX, reduceIte, reduceCtorEq, Nat.reduceLT, Nat.reduceAdd, Nat.reduceEqDiff, Nat.reduceBEq, Nat.reduceLeDiff, Nat.reduceMul, ttL, tyL, ht']
          refine IdxO.by hE' 9000 (by omega) (by rw [hln]; omega) ?_
          try simp only [Int.toNat_natCast, Nat.sub_self]
          simp only [evX, reduceIte, reduceCtorEq, Nat.reduceLT, Nat.reduceAdd, Nat.reduceEqDiff, Nat.reduceBEq, Nat.reduceLeDiff, Nat.reduceMul, ttL, tyL, ht']
          refine LdO.by hE' (j := i) (row := namedC m[i]) 9000 hri (by simp) (by simp) ?_
          try simp only [Int.toNat_natCast, Nat.sub_self]
          simp only [evX, reduceIte, reduceCtorEq, Nat.reduceLT, Nat.reduceAdd, Nat.reduceEqDiff, Nat.reduceBEq, Nat.reduceLeDiff, Nat.reduceMul, ttL, tyL, ht']
          refine IdxO.by hE' 9000 (by omega) (by rw [hln]; omega) ?_
          try simp only [Int.toNat_natCast, Nat.sub_self]
          simp only [evX, reduceIte, reduceCtorEq, Nat.reduceLT, Nat.reduceAdd, Nat.reduceEqDiff, Nat.reduceBEq, Nat.reduceLeDiff, Nat.reduceMul, ttL, tyL, ht']
          refine StG.byXO hE' ht' (j := i) (m := namedC m[k]) 9000 rfl rfl rfl rfl rfl rfl hri rfl (by simp) (by simp [tyL]) ?_
          try simp only [Int.toNat_natCast, Nat.sub_self]
          simp only [evX, reduceIte, reduceCtorEq, Nat.reduceLT, Nat.reduceAdd, Nat.reduceEqDiff, Nat.reduceBEq, Nat.reduceLeDiff, Nat.reduceMul, ttL, tyL, ht']
          refine IdxO.by hE' 9000 (by omega) (by first | (simp [hln]; omega) | (rw [hln]; omega)) ?_
          try simp only [Int.toNat_natCast, Nat.sub_self]
          simp only [evX, reduceIte, reduceCtorEq, Nat.reduceLT, Nat.reduceAdd, Nat.reduceEqDiff, Nat.reduceBEq, Nat.reduceLeDiff, Nat.reduceMul, ttL, tyL, ht']
          refine StG.byOD hE' ht' (j := k) (m := namedC m[i]) 9000 rfl rfl rfl rfl rfl (by rw [List.getElem?_set_ne (by omega)]; exact hrk) rfl (by simp) (by simp [tyL]) (by kernel_rfl) ?_
          try simp only [Int.toNat_natCast, Nat.sub_self]
          simp only [evX, reduceIte, reduceCtorEq, Nat.reduceLT, Nat.reduceAdd, Nat.reduceEqDiff, Nat.reduceBEq, Nat.reduceLeDiff, Nat.reduceMul, ttL, tyL, ht']
          refine ⟨⟨i + 1, by omega⟩, [0, 1, 2, 3, 4, 5, 6], Wk.of rfl (by simp) (by rw [h0']; simp [fixB]) ?_ ?_ (by simp) (by simp), by simp only; omega⟩
          · simp [wkT, okA, Vam.look, sig]
            rw [wrap64 (by omega) (by omega), wrap64 (by omega) (by omega)]
            exact ⟨rfl, by omega⟩
          · simp [wkBs, nthB, wkBx, wkL, okA, sig, wkT, Vam.look]
            exact hset
        · simp only [decide_eq_false_iff_not] at hb
          have hr : revI m i = l' := by rw [revI_end (by omega), hm']
          refine InlQ.by hE 9000 (.inl rfl) rfl ?_
          subst htm
          simp only [evX, reduceIte, reduceCtorEq, Nat.reduceLT, Nat.reduceAdd, Nat.reduceEqDiff, Nat.reduceBEq, Nat.reduceLeDiff, Nat.reduceMul, ttL, tyL, ht]
          refine StG.byX hE ht 9000 rfl rfl ?_
          simp only [evX, reduceIte, reduceCtorEq, Nat.reduceLT, Nat.reduceAdd, Nat.reduceEqDiff, Nat.reduceBEq, Nat.reduceLeDiff, Nat.reduceMul, ttL, tyL, ht]
          refine StG.byXW hE ht 9000 rfl rfl rfl rfl rfl rfl rfl rfl rfl ?_
          simp only [evX, reduceIte, reduceCtorEq, Nat.reduceLT, Nat.reduceAdd, Nat.reduceEqDiff, Nat.reduceBEq, Nat.reduceLeDiff, Nat.reduceMul, ttL, tyL, ht]
          refine StG.byD hE ht 9000 rfl (by kernel_rfl) ?_
          simp only [evX, reduceIte, reduceCtorEq, Nat.reduceLT, Nat.reduceAdd, Nat.reduceEqDiff, Nat.reduceBEq, Nat.reduceLeDiff, Nat.reduceMul, ttL, tyL, ht]
          rw [e, hr]
          refine RetQ.mix3 (.inr rfl) (cellV rfl rfl rfl rfl rfl rfl rfl rfl rfl) (cellS rfl rfl rfl rfl rfl rfl rfl rfl) (cellS rfl rfl rfl rfl rfl rfl rfl rfl) rfl rfl rfl rfl rfl rfl
end Go.Proofs.YtmfbcgheffdghaaGreat

/- Changes, one behind the other: whether they may be. -/
namespace Go.Proofs.YtmfbcgheffdghaaGreat
open Go.Vam Go.Qm
set_option linter.unusedVariables false
set_option linter.unusedSimpArgs false
set_option maxRecDepth 8000

end Go.Proofs.YtmfbcgheffdghaaGreat

/- Named patches: whether they may be, and the document's answers. -/
namespace Go.Proofs.YtmfbcgheffdghaaGreat
open Go.Vam Go.Qm
set_option linter.unusedVariables false
set_option linter.unusedSimpArgs false
set_option maxRecDepth 8000
set_option maxHeartbeats 2000000

theorem ok_ref14Same (p q : Named) (bp : namedB p) : Ok Tryz.prog 30 [namedA p, namedA q] (.v (boolA (sameN p q))) := by
  have h1 := bp.1
  have h2 := bp.2.1
  simp only [Big] at h1 h2
  (refine Ok.code hT hM (fn := Tryz.f30) rfl rfl rfl _ _ rfl rfl (Nat.le_of_ble_eq_true rfl) fun E hE hP ht h0 hrd => ?_; refine Go.run hE 9000 ?_; simp only [Tryz.f30, evX, reduceIte, reduceCtorEq, Nat.reduceLT, Nat.reduceAdd, Nat.reduceEqDiff, Nat.reduceBEq, Nat.reduceLeDiff, Nat.reduceMul, ttL, tyL, ht])
  (refine CallG.ok hE 9000 (hP ▸ ok_refList p.l q.l (by omega) bp.2.2) rfl rfl ?_ <;> simp only [evX, reduceIte, reduceCtorEq, Nat.reduceLT, Nat.reduceAdd, Nat.reduceEqDiff, Nat.reduceBEq, Nat.reduceLeDiff, Nat.reduceMul, ttL, tyL, ht])
  by_cases hg : all2 primEq p.l q.l = true ∧ idEq p.id q.id = true ∧ (p.text == q.text) = true ∧ p.deps.length = q.deps.length
  · obtain ⟨g1, g2, g3, g4⟩ := hg
    have g3' : (p.text != q.text) = false := by rw [bne, g3]; rfl
    simp only [g1, evX, reduceIte, reduceCtorEq, Nat.reduceLT, Nat.reduceAdd, Nat.reduceEqDiff, Nat.reduceBEq, Nat.reduceLeDiff, Nat.reduceMul, ttL, tyL, ht, Bool.not_true]
    (refine HardOp.eqI hE 9000 rfl (hP ▸ eqT) rfl ?_ <;> simp only [evX, reduceIte, reduceCtorEq, Nat.reduceLT, Nat.reduceAdd, Nat.reduceEqDiff, Nat.reduceBEq, Nat.reduceLeDiff, Nat.reduceMul, ttL, tyL, ht])
    have hc : (p.id.who == q.id.who && p.id.no == q.id.no) = true := g2
    simp only [hc, g3, g4, g3', evX, reduceIte, reduceCtorEq, Nat.reduceLT, Nat.reduceAdd, Nat.reduceEqDiff, Nat.reduceBEq, Nat.reduceLeDiff, Nat.reduceMul, ttL, tyL, ht, Bool.not_true, bne_self_eq_false]
    refine Loop.by hE (ι := {i : Nat // i ≤ p.deps.length ∧ all2 idEq (p.deps.take i) (q.deps.take i) = true}) (fun i => ⟨55, [(2, .ptr 0 0), (3, .ptr 1 0), (6, intA i.1)], [.cells ((namedC p).map .c), .cells ((namedC q).map .c)], [], []⟩) (fun i => p.deps.length - i.1) ⟨0, by simp [all2]⟩ 9000 ⟨[0, 1], Wk.of rfl (by simp) (by rw [h0]; simp [fixB]) (by simp [wkT, okA, wkP, cloE, Vam.look, sig, ]) (by simp [wkBs, setBx, nthB, wkBx, wkL, okA, wkP, cloE, sig, ]) (by simp) (by simp)⟩ (by simp [h0]) ?_
    rintro ⟨i, hi, hall⟩
    simp only [evX, reduceIte, reduceCtorEq, Nat.reduceLT, Nat.reduceAdd, Nat.reduceEqDiff, Nat.reduceBEq, Nat.reduceLeDiff, Nat.reduceMul, ttL, tyL, ht]
    ((first | refine SelF.byN (fun hb => ?_) (fun hb => ?_) | refine SelF.by (fun hb => ?_) (fun hb => ?_)) <;> simp only [hb, evX, reduceIte, reduceCtorEq, Nat.reduceLT, Nat.reduceAdd, Nat.reduceEqDiff, Nat.reduceBEq, Nat.reduceLeDiff, Nat.reduceMul, ttL, tyL, ht])
    · simp only [decide_eq_true_eq] at hb
      have hlt : i < p.deps.length := by omega
      have hlt2 : i < q.deps.length := by omega
      refine IdxR.nat hE 9000 hlt rfl ?_
      simp only [evX, reduceIte, reduceCtorEq, Nat.reduceLT, Nat.reduceAdd, Nat.reduceEqDiff, Nat.reduceBEq, Nat.reduceLeDiff, Nat.reduceMul, ttL, tyL, ht]
      refine IdxR.nat hE 9000 hlt2 rfl ?_
      simp only [evX, reduceIte, reduceCtorEq, Nat.reduceLT, Nat.reduceAdd, Nat.reduceEqDiff, Nat.reduceBEq, Nat.reduceLeDiff, Nat.reduceMul, ttL, tyL, ht]
      (refine HardOp.eqI hE 9000 rfl (hP ▸ eqT) rfl ?_ <;> simp only [evX, reduceIte, reduceCtorEq, Nat.reduceLT, Nat.reduceAdd, Nat.reduceEqDiff, Nat.reduceBEq, Nat.reduceLeDiff, Nat.reduceMul, ttL, tyL, ht])
      refine ⟨by kernel_rfl, ?_⟩
      have hc : (p.deps[i].who == q.deps[i].who && p.deps[i].no == q.deps[i].no) = idEq p.deps[i] q.deps[i] := rfl
      simp only [hc, evX, reduceIte, reduceCtorEq, Nat.reduceLT, Nat.reduceAdd, Nat.reduceEqDiff, Nat.reduceBEq, Nat.reduceLeDiff, Nat.reduceMul, ttL, tyL, ht]
      ((first | refine SelF.byN (fun hb => ?_) (fun hb => ?_) | refine SelF.by (fun hb => ?_) (fun hb => ?_)) <;> simp only [hb, evX, reduceIte, reduceCtorEq, Nat.reduceLT, Nat.reduceAdd, Nat.reduceEqDiff, Nat.reduceBEq, Nat.reduceLeDiff, Nat.reduceMul, ttL, tyL, ht])
      · have hf := all2_at hlt hlt2 (f := idEq) (by simpa using hb)
        exact RetQ.bool (.inr rfl) rfl (by rw [sameN, hf]; simp)
      · refine ⟨⟨i + 1, by omega, by rw [all2_take hlt hlt2, hall]; simpa using hb⟩, [0, 1], Wk.of rfl (by simp) (by rw [h0]; simp [fixB]) (by simp [wkT, okA, wkP, cloE, Vam.look, sig, wrapN i (by omega)]) (by simp [wkBs, setBx, nthB, wkBx, wkL, okA, wkP, cloE, sig, wrapN i (by omega)]) (by simp) (by simp), by simp only; omega⟩
    · have hf := all2_full hi (by simpa using hb) g4 hall
      exact RetQ.bool (.inr rfl) rfl (by rw [sameN, g1, g2, g3, hf]; rfl)
  · have e : sameN p q = false := by
      cases hs : sameN p q with
      | false => rfl
      | true =>
        exfalso
        simp only [sameN, Bool.and_eq_true] at hs
        exact hg ⟨hs.2, hs.1.1.1, hs.1.1.2, all2_len hs.1.2⟩
    rw [e]
    cases g1 : all2 primEq p.l q.l <;> simp only [evX, reduceIte, reduceCtorEq, Nat.reduceLT, Nat.reduceAdd, Nat.reduceEqDiff, Nat.reduceBEq, Nat.reduceLeDiff, Nat.reduceMul, ttL, tyL, ht, Bool.not_true, Bool.not_false]
    · exact RetQ.bool (.inr rfl) rfl rfl
    · (refine HardOp.eqI hE 9000 rfl (hP ▸ eqT) rfl ?_ <;> simp only [evX, reduceIte, reduceCtorEq, Nat.reduceLT, Nat.reduceAdd, Nat.reduceEqDiff, Nat.reduceBEq, Nat.reduceLeDiff, Nat.reduceMul, ttL, tyL, ht])
      have hc : (p.id.who == q.id.who && p.id.no == q.id.no) = idEq p.id q.id := rfl
      simp only [hc, evX, reduceIte, reduceCtorEq, Nat.reduceLT, Nat.reduceAdd, Nat.reduceEqDiff, Nat.reduceBEq, Nat.reduceLeDiff, Nat.reduceMul, ttL, tyL, ht]
      cases g2 : idEq p.id q.id <;> simp only [evX, reduceIte, reduceCtorEq, Nat.reduceLT, Nat.reduceAdd, Nat.reduceEqDiff, Nat.reduceBEq, Nat.reduceLeDiff, Nat.reduceMul, ttL, tyL, ht, Bool.not_true, Bool.not_false]
      · exact RetQ.bool (.inr rfl) rfl rfl
      · cases g3 : (p.text == q.text)
        · have g3' : (p.text != q.text) = true := by rw [bne, g3]; rfl
          simp only [g3', evX, reduceIte, reduceCtorEq, Nat.reduceLT, Nat.reduceAdd, Nat.reduceEqDiff, Nat.reduceBEq, Nat.reduceLeDiff, Nat.reduceMul, ttL, tyL, ht]
          exact RetQ.bool (.inr rfl) rfl rfl
        · have g3' : (p.text != q.text) = false := by rw [bne, g3]; rfl
          simp only [g3', evX, reduceIte, reduceCtorEq, Nat.reduceLT, Nat.reduceAdd, Nat.reduceEqDiff, Nat.reduceBEq, Nat.reduceLeDiff, Nat.reduceMul, ttL, tyL, ht]
          ((first | refine SelF.byN (fun hb => ?_) (fun hb => ?_) | refine SelF.by (fun hb => ?_) (fun hb => ?_)) <;> simp only [hb, evX, reduceIte, reduceCtorEq, Nat.reduceLT, Nat.reduceAdd, Nat.reduceEqDiff, Nat.reduceBEq, Nat.reduceLeDiff, Nat.reduceMul, ttL, tyL, ht])
          · exact RetQ.bool (.inr rfl) rfl rfl
          · exact absurd ⟨g1, g2, g3, by simp at hb; omega⟩ hg
theorem ok_All (l : List Named) (bl : namedsB l) (hn : (allN l).length * 96 ≤ 140737488355328) : Ok Tryz.prog 26 [namedsA l] (.v (primsA (allN l))) := by
  have h1 := bl.1
  simp only [Big] at h1
  have hle : ∀ i, i ≤ l.length → (allN (l.take i)).length ≤ (allN l).length := fun i hi => by
    conv => rhs; rw [← List.take_append_drop i l, allN_append]
    simp
  (refine Ok.code hT hM (fn := Tryz.f26) rfl rfl rfl _ _ rfl rfl (Nat.le_of_ble_eq_true rfl) fun E hE hP ht h0 hrd => ?_; refine Go.run hE 9000 ?_; simp only [Tryz.f26, evX, reduceIte, reduceCtorEq, Nat.reduceLT, Nat.reduceAdd, Nat.reduceEqDiff, Nat.reduceBEq, Nat.reduceLeDiff, Nat.reduceMul, ttL, tyL, ht])
  refine Go.nilT 3 50 6 rfl ?_
  refine Loop.by hE (ι := {i : Nat // i ≤ l.length}) (fun i => ⟨18, [(3, .own 0), (6, namedsA l), (7, intA l.length), (8, intA i.1)], [.rows 50 6 (primsC (allN (l.take i.1)))], [], []⟩) (fun i => l.length - i.1) ⟨0, by simp⟩ 9000 ⟨[0], Wk.of rfl (by simp) (by rw [h0]; simp [fixB]) (by simp [wkT, okA, wkP, cloE, Vam.look, sig, allN]) (by simp [wkBs, setBx, nthB, wkBx, wkL, okA, wkP, cloE, sig, allN]) (by simp) (by simp)⟩ (by simp [h0]) ?_
  rintro ⟨i, hi⟩
  simp only [evX, reduceIte, reduceCtorEq, Nat.reduceLT, Nat.reduceAdd, Nat.reduceEqDiff, Nat.reduceBEq, Nat.reduceLeDiff, Nat.reduceMul, ttL, tyL, ht]
  ((first | refine SelF.byN (fun hb => ?_) (fun hb => ?_) | refine SelF.by (fun hb => ?_) (fun hb => ?_)) <;> simp only [hb, evX, reduceIte, reduceCtorEq, Nat.reduceLT, Nat.reduceAdd, Nat.reduceEqDiff, Nat.reduceBEq, Nat.reduceLeDiff, Nat.reduceMul, ttL, tyL, ht])
  · simp only [decide_eq_true_eq] at hb
    have hlt : i < l.length := by omega
    refine IdxR.nat hE 9000 hlt rfl ?_
    simp only [evX, reduceIte, reduceCtorEq, Nat.reduceLT, Nat.reduceAdd, Nat.reduceEqDiff, Nat.reduceBEq, Nat.reduceLeDiff, Nat.reduceMul, ttL, tyL, ht]
    (refine StG.by hE ht 9000 rfl ?_ <;> simp only [evX, reduceIte, reduceCtorEq, Nat.reduceLT, Nat.reduceAdd, Nat.reduceEqDiff, Nat.reduceBEq, Nat.reduceLeDiff, Nat.reduceMul, ttL, tyL, ht])
    have hl2 := hle (i + 1) (by omega)
    rw [allN_take hlt] at hl2
    simp only [List.length_append] at hl2
    refine AppG.by hE 9000 rfl rfl (rowLen_prims _) (by simp; omega) ?_
    simp only [evX, reduceIte, reduceCtorEq, Nat.reduceLT, Nat.reduceAdd, Nat.reduceEqDiff, Nat.reduceBEq, Nat.reduceLeDiff, Nat.reduceMul, ttL, tyL, ht]
    have htk : primsC (allN (l.take i)) ++ primsC l[i].l = primsC (allN (l.take (i + 1))) := by rw [allN_take hlt, primsC, primsC, primsC, List.map_append]
    rw [htk]
    refine ⟨⟨i + 1, by omega⟩, [2], Wk.of rfl (by simp) (by rw [h0]; simp [fixB]) (by simp [wkT, okA, wkP, cloE, Vam.look, sig, wrapN i (by omega)]) (by simp [wkBs, setBx, nthB, wkBx, wkL, okA, wkP, cloE, sig, wrapN i (by omega)]) (by simp) (by simp), by simp only; omega⟩
  · have : i = l.length := by simp at hb; omega
    subst this
    exact RetQ.ownV (.inr rfl) rfl rfl rfl (by rw [List.take_length])
end Go.Proofs.YtmfbcgheffdghaaGreat
