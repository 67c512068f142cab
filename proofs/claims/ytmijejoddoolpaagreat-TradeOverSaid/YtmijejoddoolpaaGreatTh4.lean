/- The laws of named patches that pass one another, upon trees. -/
import Derived.Test.YtmijejoddoolpaaGreatTh3
namespace Go.Proofs.YtmijejoddoolpaaGreat
open Go.Vam Go.Qm
set_option linter.unusedVariables false
set_option linter.unusedSimpArgs false
set_option maxRecDepth 8000
set_option maxHeartbeats 2000000

theorem named2 {p q : Named} (kp : okN p) (kq : okN q) : namedsB [p, q] ∧ ∀ x ∈ [p, q], namedR x := by
  refine ⟨⟨by simp [Big], fun x hx => ?_⟩, fun x hx => ?_⟩
  · simp only [List.mem_cons, List.not_mem_nil, or_false] at hx
    rcases hx with rfl | rfl
    · exact kp.b
    · exact kq.b
  · simp only [List.mem_cons, List.not_mem_nil, or_false] at hx
    rcases hx with rfl | rfl
    · exact kp.r
    · exact kq.r
theorem passNT_len {p q : Named} {n : Nat} (h1 : p.l.length ≤ n) (h2 : q.l.length ≤ n) : (passNT p q).1.l.length ≤ n ∧ (passNT p q).2.1.l.length ≤ n := by
  unfold passNT
  split
  · rename_i r e
    obtain ⟨_, _, _, k1, _, _, _, k2⟩ := passN_same e
    exact ⟨by simp only; omega, by simp only; omega⟩
  · simp [namedZ]
theorem fewN_mem {l : List Named} {n : Int} (h : fewN l n = true) (p : Named) (hp : p ∈ l) : p.l.length ≤ 10 := by
  simp only [fewN, Bool.and_eq_true, List.all_eq_true] at h
  have h2 := h.2 p hp
  simp only [lightN, Bool.and_eq_true] at h2
  have := few_len h2.1.1
  omega
theorem allN_two (p q : Named) : allN [p, q] = p.l ++ q.l := by simp [allN]
theorem law_TradeSame (t : List File) (bt : treeB t) (p : Named) (bp : namedB p) (rp : namedR p) (q : Named) (bq : namedB q) (rq : namedR q) : Ok Tryz.prog 5 [treeA t, namedA p, namedA q] (.v (boolA true)) := by
  have kp : okN p := ⟨bp, rp⟩
  have kq : okN q := ⟨bq, rq⟩
  have k2 := named2 kp kq
  have kk := passNT_keep kp kq
  have k3 := named2 kk.1 kk.2
  (refine Ok.code hT hM (fn := Tryz.f5) rfl rfl rfl _ _ rfl rfl (Nat.le_of_ble_eq_true rfl) fun E hE hP ht h0 hrd => ?_; refine Go.run hE 9000 ?_; simp only [Tryz.f5, evX, reduceIte, reduceCtorEq, Nat.reduceLT, Nat.reduceAdd, Nat.reduceEqDiff, Nat.reduceBEq, Nat.reduceLeDiff, Nat.reduceMul, ttL, tyL, ht])
  (refine CallG.ok hE 9000 (hP ▸ ok_awake15) rfl rfl ?_ <;> simp only [evX, reduceIte, reduceCtorEq, Nat.reduceLT, Nat.reduceAdd, Nat.reduceEqDiff, Nat.reduceBEq, Nat.reduceLeDiff, Nat.reduceMul, ttL, tyL, ht])
  (refine CallG.ok hE 9000 (hP ▸ ok_lightT t bt) rfl rfl ?_ <;> simp only [evX, reduceIte, reduceCtorEq, Nat.reduceLT, Nat.reduceAdd, Nat.reduceEqDiff, Nat.reduceBEq, Nat.reduceLeDiff, Nat.reduceMul, ttL, tyL, ht])
  (refine CallG.ok hE 9000 (hP ▸ ok_fewN [p, q] 2 k2.1) rfl rfl ?_ <;> simp only [evX, reduceIte, reduceCtorEq, Nat.reduceLT, Nat.reduceAdd, Nat.reduceEqDiff, Nat.reduceBEq, Nat.reduceLeDiff, Nat.reduceMul, ttL, tyL, ht])
  cases h1 : treeLight t <;> simp only [evX, reduceIte, reduceCtorEq, Nat.reduceLT, Nat.reduceAdd, Nat.reduceEqDiff, Nat.reduceBEq, Nat.reduceLeDiff, Nat.reduceMul, ttL, tyL, ht, Bool.not_false, Bool.not_true]
  · exact RetQ.bool (.inr rfl) rfl rfl
  cases h2 : fewN [p, q] 2 <;> simp only [evX, reduceIte, reduceCtorEq, Nat.reduceLT, Nat.reduceAdd, Nat.reduceEqDiff, Nat.reduceBEq, Nat.reduceLeDiff, Nat.reduceMul, ttL, tyL, ht, Bool.not_false, Bool.not_true]
  · exact RetQ.bool (.inr rfl) rfl rfl
  (refine CallG.ok hE 9000 (hP ▸ ok_treeMay t bt) rfl rfl ?_ <;> simp only [evX, reduceIte, reduceCtorEq, Nat.reduceLT, Nat.reduceAdd, Nat.reduceEqDiff, Nat.reduceBEq, Nat.reduceLeDiff, Nat.reduceMul, ttL, tyL, ht])
  cases h3 : treeMay t <;> simp only [evX, reduceIte, reduceCtorEq, Nat.reduceLT, Nat.reduceAdd, Nat.reduceEqDiff, Nat.reduceBEq, Nat.reduceLeDiff, Nat.reduceMul, ttL, tyL, ht, Bool.not_false, Bool.not_true]
  · exact RetQ.bool (.inr rfl) rfl rfl
  obtain ⟨f1, f2, d1, d2⟩ := fewN2 h2
  have l1 := few_len f1
  have l2 := few_len f2
  have l3 := passNT_len (p := p) (q := q) (n := 10) (by omega) (by omega)
  have nt := light_N bt h1
  have la1 : (allN [p, q]).length ≤ 20 := by rw [allN_two, List.length_append]; omega
  have la2 : (allN [(passNT p q).1, (passNT p q).2.1]).length ≤ 20 := by rw [allN_two, List.length_append]; omega
  (refine CallG.ok hE 9000 (hP ▸ ok_tradePass p q kp kq) rfl rfl ?_ <;> simp only [evX, reduceIte, reduceCtorEq, Nat.reduceLT, Nat.reduceAdd, Nat.reduceEqDiff, Nat.reduceBEq, Nat.reduceLeDiff, Nat.reduceMul, ttL, tyL, ht])
  (refine StG.by hE ht 9000 rfl ?_ <;> simp only [evX, reduceIte, reduceCtorEq, Nat.reduceLT, Nat.reduceAdd, Nat.reduceEqDiff, Nat.reduceBEq, Nat.reduceLeDiff, Nat.reduceMul, ttL, tyL, ht])
  (refine StG.by hE ht 9000 rfl ?_ <;> simp only [evX, reduceIte, reduceCtorEq, Nat.reduceLT, Nat.reduceAdd, Nat.reduceEqDiff, Nat.reduceBEq, Nat.reduceLeDiff, Nat.reduceMul, ttL, tyL, ht])
  (refine CallG.ok hE 9000 (hP ▸ ok_patchApply t [p, q] nt k2.1 k2.2 (by omega) (by decide) (by decide)) rfl rfl ?_ <;> simp only [evX, reduceIte, reduceCtorEq, Nat.reduceLT, Nat.reduceAdd, Nat.reduceEqDiff, Nat.reduceBEq, Nat.reduceLeDiff, Nat.reduceMul, ttL, tyL, ht])
  cases h4 : (passNT p q).2.2 <;> simp only [evX, reduceIte, reduceCtorEq, Nat.reduceLT, Nat.reduceAdd, Nat.reduceEqDiff, Nat.reduceBEq, Nat.reduceLeDiff, Nat.reduceMul, ttL, tyL, ht, Bool.not_false, Bool.not_true]
  · exact RetQ.bool (.inr rfl) rfl rfl
  ((first | refine SelF.byN (fun hb => ?_) (fun hb => ?_) | refine SelF.by (fun hb => ?_) (fun hb => ?_)) <;> simp only [hb, evX, reduceIte, reduceCtorEq, Nat.reduceLT, Nat.reduceAdd, Nat.reduceEqDiff, Nat.reduceBEq, Nat.reduceLeDiff, Nat.reduceMul, ttL, tyL, ht])
  · exact RetQ.bool (.inr rfl) rfl rfl
  · have h6 : (runL t (allN [p, q])).2 = 0 := by simpa using hb
    have e := passN_run (treeMay_srt h3) (by rw [← allN_two]; exact h6) (passNT_some h4)
    rw [← allN_two, ← allN_two] at e
    (refine CallG.ok hE 9000 (hP ▸ ok_patchApply t [(passNT p q).1, (passNT p q).2.1] nt k3.1 k3.2 (by omega) (by decide) (by decide)) rfl rfl ?_ <;> simp only [evX, reduceIte, reduceCtorEq, Nat.reduceLT, Nat.reduceAdd, Nat.reduceEqDiff, Nat.reduceBEq, Nat.reduceLeDiff, Nat.reduceMul, ttL, tyL, ht])
    simp only [e, h6, evX, reduceIte, reduceCtorEq, Nat.reduceLT, Nat.reduceAdd, Nat.reduceEqDiff, Nat.reduceBEq, Nat.reduceLeDiff, Nat.reduceMul, ttL, tyL, ht, Int.reduceBEq]
    have hB : treeB (runL t (allN [p, q])).1 := (runL_N nt (allN_R k2.2)).B (Nat.le_trans (m := 1000 * 40) (Nat.mul_le_mul_right _ (by omega)) (by decide)) (Nat.le_trans (m := 100000 * 16) (Nat.mul_le_mul_right _ (by omega)) (by decide))
    (refine CallG.ok hE 9000 (hP ▸ ok_treeSame (runL t (allN [p, q])).1 (runL t (allN [p, q])).1 hB) rfl rfl ?_ <;> simp only [evX, reduceIte, reduceCtorEq, Nat.reduceLT, Nat.reduceAdd, Nat.reduceEqDiff, Nat.reduceBEq, Nat.reduceLeDiff, Nat.reduceMul, ttL, tyL, ht])
    exact RetQ.bool (.inr rfl) rfl (treeEq_refl _)
theorem law_TradeOver (t : List File) (bt : treeB t) (l : List Named) (bl : namedsB l) (rl : ∀ p ∈ l, namedR p) (q : Named) (bq : namedB q) (rq : namedR q) : Ok Tryz.prog 6 [treeA t, namedsA l, namedA q] (.v (boolA true)) := by
  have kq : okN q := ⟨bq, rq⟩
  have kl : ∀ p ∈ l, okN p := fun p hp => ⟨bl.2 p hp, rl p hp⟩
  have hll := bl.1
  simp only [Big] at hll
  have blq : ∀ p ∈ l ++ [q], namedB p := fun p hp => by
    rcases List.mem_append.1 hp with h | h
    · exact bl.2 p h
    · simp only [List.mem_singleton] at h; subst h; exact bq
  have rlq : ∀ p ∈ l ++ [q], namedR p := fun p hp => by
    rcases List.mem_append.1 hp with h | h
    · exact rl p h
    · simp only [List.mem_singleton] at h; subst h; exact rq
  (refine Ok.code hT hM (fn := Tryz.f6) rfl rfl rfl _ _ rfl rfl (Nat.le_of_ble_eq_true rfl) fun E hE hP ht h0 hrd => ?_; refine Go.run hE 9000 ?_; simp only [Tryz.f6, evX, reduceIte, reduceCtorEq, Nat.reduceLT, Nat.reduceAdd, Nat.reduceEqDiff, Nat.reduceBEq, Nat.reduceLeDiff, Nat.reduceMul, ttL, tyL, ht])
  (refine CallG.ok hE 9000 (hP ▸ ok_awake15) rfl rfl ?_ <;> simp only [evX, reduceIte, reduceCtorEq, Nat.reduceLT, Nat.reduceAdd, Nat.reduceEqDiff, Nat.reduceBEq, Nat.reduceLeDiff, Nat.reduceMul, ttL, tyL, ht])
  (refine CallG.ok hE 9000 (hP ▸ ok_lightT t bt) rfl rfl ?_ <;> simp only [evX, reduceIte, reduceCtorEq, Nat.reduceLT, Nat.reduceAdd, Nat.reduceEqDiff, Nat.reduceBEq, Nat.reduceLeDiff, Nat.reduceMul, ttL, tyL, ht])
  refine AppG.by hE 9000 rfl rfl (by simp [rowLen]) (by simp; omega) ?_
  simp only [evX, reduceIte, reduceCtorEq, Nat.reduceLT, Nat.reduceAdd, Nat.reduceEqDiff, Nat.reduceBEq, Nat.reduceLeDiff, Nat.reduceMul, ttL, tyL, ht]
  refine AppG.by hE 9000 rfl rfl (by simp [rowLen]) (by simp; omega) ?_
  simp only [evX, reduceIte, reduceCtorEq, Nat.reduceLT, Nat.reduceAdd, Nat.reduceEqDiff, Nat.reduceBEq, Nat.reduceLeDiff, Nat.reduceMul, ttL, tyL, ht]
  rw [show namedsC l ++ [[.sc (.int .i64 q.id.who), .sc (.int .i64 q.id.no), .sl (idsC q.deps), .sc (.string q.text), .sl (primsC q.l)]] = namedsC (l ++ [q]) by simp]
  (refine CallG.ok hE 9000 (hP ▸ ok_fewNw (l ++ [q]) 9 (by simp; omega) blq) rfl rfl ?_ <;> simp only [evX, reduceIte, reduceCtorEq, Nat.reduceLT, Nat.reduceAdd, Nat.reduceEqDiff, Nat.reduceBEq, Nat.reduceLeDiff, Nat.reduceMul, ttL, tyL, ht])
  refine ⟨by kernel_rfl, ?_⟩
  cases h1 : treeLight t <;> simp only [evX, reduceIte, reduceCtorEq, Nat.reduceLT, Nat.reduceAdd, Nat.reduceEqDiff, Nat.reduceBEq, Nat.reduceLeDiff, Nat.reduceMul, ttL, tyL, ht, Bool.not_false, Bool.not_true]
  · exact RetQ.bool (.inr rfl) rfl rfl
  cases h2 : fewN (l ++ [q]) 9 <;> simp only [evX, reduceIte, reduceCtorEq, Nat.reduceLT, Nat.reduceAdd, Nat.reduceEqDiff, Nat.reduceBEq, Nat.reduceLeDiff, Nat.reduceMul, ttL, tyL, ht, Bool.not_false, Bool.not_true]
  · exact RetQ.bool (.inr rfl) rfl rfl
  (refine CallG.ok hE 9000 (hP ▸ ok_treeMay t bt) rfl rfl ?_ <;> simp only [evX, reduceIte, reduceCtorEq, Nat.reduceLT, Nat.reduceAdd, Nat.reduceEqDiff, Nat.reduceBEq, Nat.reduceLeDiff, Nat.reduceMul, ttL, tyL, ht])
  cases h3 : treeMay t <;> simp only [evX, reduceIte, reduceCtorEq, Nat.reduceLT, Nat.reduceAdd, Nat.reduceEqDiff, Nat.reduceBEq, Nat.reduceLeDiff, Nat.reduceMul, ttL, tyL, ht, Bool.not_false, Bool.not_true]
  · exact RetQ.bool (.inr rfl) rfl rfl
  have nt := light_N bt h1
  have ll := fewN_len h2
  have lla := fewN_all h2
  rw [allN_append] at lla
  simp only [List.length_append, List.length_singleton] at ll lla
  have hov := ok_Over l q (by omega) kl kq
  cases ho : overN l q with
  | none =>
    rw [ho] at hov
    (refine CallG.ok hE 9000 (hP ▸ hov) rfl rfl ?_ <;> simp only [evX, reduceIte, reduceCtorEq, Nat.reduceLT, Nat.reduceAdd, Nat.reduceEqDiff, Nat.reduceBEq, Nat.reduceLeDiff, Nat.reduceMul, ttL, tyL, ht])
    simp only [retE, evX, reduceIte, reduceCtorEq, Nat.reduceLT, Nat.reduceAdd, Nat.reduceEqDiff, Nat.reduceBEq, Nat.reduceLeDiff, Nat.reduceMul, ttL, tyL, ht]
    (refine StG.by hE ht 9000 rfl ?_ <;> simp only [evX, reduceIte, reduceCtorEq, Nat.reduceLT, Nat.reduceAdd, Nat.reduceEqDiff, Nat.reduceBEq, Nat.reduceLeDiff, Nat.reduceMul, ttL, tyL, ht])
    exact RetQ.bool (.inr rfl) rfl rfl
  | some r =>
    obtain ⟨⟨yi, yd, yt, yl⟩, m⟩ := r
    rw [ho] at hov
    obtain ⟨ky, km⟩ := overN_keep okN_pass ho kl kq
    have hml := overN_len ho
    obtain ⟨⟨j1, j2, j3, j4⟩, k2⟩ := overN_like ho
    simp only at j1 j2 j3 j4
    subst j1; subst j2; subst j3
    have c1 : ((m.length : Int) != (l.length : Int)) = false := by rw [hml]; simp
    have c2 : ((yl.length : Int) != (q.l.length : Int)) = false := by rw [j4]; simp
    (refine CallG.ok hE 9000 (hP ▸ hov) rfl rfl ?_ <;> simp only [evX, reduceIte, reduceCtorEq, Nat.reduceLT, Nat.reduceAdd, Nat.reduceEqDiff, Nat.reduceBEq, Nat.reduceLeDiff, Nat.reduceMul, ttL, tyL, ht])
    simp only [retE, evX, reduceIte, reduceCtorEq, Nat.reduceLT, Nat.reduceAdd, Nat.reduceEqDiff, Nat.reduceBEq, Nat.reduceLeDiff, Nat.reduceMul, ttL, tyL, ht]
    (refine StG.by hE ht 9000 rfl ?_ <;> simp only [evX, reduceIte, reduceCtorEq, Nat.reduceLT, Nat.reduceAdd, Nat.reduceEqDiff, Nat.reduceBEq, Nat.reduceLeDiff, Nat.reduceMul, ttL, tyL, ht])
    simp only [c1, evX, reduceIte, reduceCtorEq, Nat.reduceLT, Nat.reduceAdd, Nat.reduceEqDiff, Nat.reduceBEq, Nat.reduceLeDiff, Nat.reduceMul, ttL, tyL, ht]
    (refine HardOp.eqI hE 9000 rfl (hP ▸ eqT) rfl ?_ <;> simp only [evX, reduceIte, reduceCtorEq, Nat.reduceLT, Nat.reduceAdd, Nat.reduceEqDiff, Nat.reduceBEq, Nat.reduceLeDiff, Nat.reduceMul, ttL, tyL, ht])
    have c3 : (q.text == q.text) = true := by simp [str_beq]
    simp only [beq_self_eq_true, Bool.and_self, Bool.not_true, c2, c3, evX, reduceIte, reduceCtorEq, Nat.reduceLT, Nat.reduceAdd, Nat.reduceEqDiff, Nat.reduceBEq, Nat.reduceLeDiff, Nat.reduceMul, ttL, tyL, ht]
    refine Go.frzT 11 4 rfl rfl rfl ?_
    refine Loop.by hE (ι := {i : Nat // i ≤ l.length}) (fun i => ⟨171, [(13, intA (i.1 : Int)), (11, namedsA m), (10, .ptr 1 0), (5, .ptr 0 0), (0, treeA t), (1, namedsA l), (2, namedA q)], [.cells ((namedC q).map .c), .cells ((namedC ⟨q.id, q.deps, q.text, yl⟩).map .c)], [], []⟩) (fun i => l.length - i.1) ⟨0, by simp⟩ 9000 ⟨[0, 5], Wk.of rfl (by simp) (by rw [h0]; simp [fixB]) (by simp [wkT, okA, wkP, cloE, Vam.look, sig, St.frz]) (by simp [wkBs, setBx, nthB, wkBx, wkL, okA, wkP, cloE, sig, St.frz]) (by simp) (by simp)⟩ (by simp [h0]) ?_
    rintro ⟨i, hi⟩
    simp only [evX, reduceIte, reduceCtorEq, Nat.reduceLT, Nat.reduceAdd, Nat.reduceEqDiff, Nat.reduceBEq, Nat.reduceLeDiff, Nat.reduceMul, ttL, tyL, ht]
    ((first | refine SelF.byN (fun hb => ?_) (fun hb => ?_) | refine SelF.by (fun hb => ?_) (fun hb => ?_)) <;> simp only [hb, evX, reduceIte, reduceCtorEq, Nat.reduceLT, Nat.reduceAdd, Nat.reduceEqDiff, Nat.reduceBEq, Nat.reduceLeDiff, Nat.reduceMul, ttL, tyL, ht])
    · simp only [decide_eq_true_eq] at hb
      have hlt : i < l.length := by omega
      have hlm : i < m.length := by omega
      obtain ⟨e1, e2, e3, e4⟩ := k2 i hlm hlt
      refine IdxR.nat hE 9000 hlm rfl ?_
      simp only [evX, reduceIte, reduceCtorEq, Nat.reduceLT, Nat.reduceAdd, Nat.reduceEqDiff, Nat.reduceBEq, Nat.reduceLeDiff, Nat.reduceMul, ttL, tyL, ht]
      refine IdxR.nat hE 9000 hlt rfl ?_
      simp only [evX, reduceIte, reduceCtorEq, Nat.reduceLT, Nat.reduceAdd, Nat.reduceEqDiff, Nat.reduceBEq, Nat.reduceLeDiff, Nat.reduceMul, ttL, tyL, ht]
      (refine HardOp.eqI hE 9000 rfl (hP ▸ eqT) rfl ?_ <;> simp only [evX, reduceIte, reduceCtorEq, Nat.reduceLT, Nat.reduceAdd, Nat.reduceEqDiff, Nat.reduceBEq, Nat.reduceLeDiff, Nat.reduceMul, ttL, tyL, ht])
      have d0 : (m[i].id.who == l[i].id.who && m[i].id.no == l[i].id.no) = true := by rw [e1]; simp
      have d1 : ((m[i].l.length : Int) != (l[i].l.length : Int)) = false := by rw [e4]; simp
      have d2 : ((m[i].deps.length : Int) != (l[i].deps.length : Int)) = false := by rw [e2]; simp
      have d3 : (m[i].text == l[i].text) = true := by rw [e3]; simp [str_beq]
      simp only [d0, Bool.not_true, evX, reduceIte, reduceCtorEq, Nat.reduceLT, Nat.reduceAdd, Nat.reduceEqDiff, Nat.reduceBEq, Nat.reduceLeDiff, Nat.reduceMul, ttL, tyL, ht]
      refine IdxR.nat hE 9000 hlm rfl ?_
      simp only [evX, reduceIte, reduceCtorEq, Nat.reduceLT, Nat.reduceAdd, Nat.reduceEqDiff, Nat.reduceBEq, Nat.reduceLeDiff, Nat.reduceMul, ttL, tyL, ht]
      refine IdxR.nat hE 9000 hlt rfl ?_
      simp only [evX, reduceIte, reduceCtorEq, Nat.reduceLT, Nat.reduceAdd, Nat.reduceEqDiff, Nat.reduceBEq, Nat.reduceLeDiff, Nat.reduceMul, ttL, tyL, ht]
      simp only [d3, Bool.not_true, evX, reduceIte, reduceCtorEq, Nat.reduceLT, Nat.reduceAdd, Nat.reduceEqDiff, Nat.reduceBEq, Nat.reduceLeDiff, Nat.reduceMul, ttL, tyL, ht]
      refine IdxR.nat hE 9000 hlm rfl ?_
      simp only [evX, reduceIte, reduceCtorEq, Nat.reduceLT, Nat.reduceAdd, Nat.reduceEqDiff, Nat.reduceBEq, Nat.reduceLeDiff, Nat.reduceMul, ttL, tyL, ht]
      refine IdxR.nat hE 9000 hlt rfl ?_
      simp only [evX, reduceIte, reduceCtorEq, Nat.reduceLT, Nat.reduceAdd, Nat.reduceEqDiff, Nat.reduceBEq, Nat.reduceLeDiff, Nat.reduceMul, ttL, tyL, ht]
      simp only [d1, evX, reduceIte, reduceCtorEq, Nat.reduceLT, Nat.reduceAdd, Nat.reduceEqDiff, Nat.reduceBEq, Nat.reduceLeDiff, Nat.reduceMul, ttL, tyL, ht]
      refine IdxR.nat hE 9000 hlm rfl ?_
      simp only [evX, reduceIte, reduceCtorEq, Nat.reduceLT, Nat.reduceAdd, Nat.reduceEqDiff, Nat.reduceBEq, Nat.reduceLeDiff, Nat.reduceMul, ttL, tyL, ht]
      refine IdxR.nat hE 9000 hlt rfl ?_
      simp only [evX, reduceIte, reduceCtorEq, Nat.reduceLT, Nat.reduceAdd, Nat.reduceEqDiff, Nat.reduceBEq, Nat.reduceLeDiff, Nat.reduceMul, ttL, tyL, ht]
      simp only [d2, evX, reduceIte, reduceCtorEq, Nat.reduceLT, Nat.reduceAdd, Nat.reduceEqDiff, Nat.reduceBEq, Nat.reduceLeDiff, Nat.reduceMul, ttL, tyL, ht]
      refine ⟨by kernel_rfl, ?_⟩
      refine ⟨⟨i + 1, by omega⟩, [0, 1], Wk.of rfl (by simp) (by rw [h0]; simp [fixB]) (by simp [wkT, okA, wkP, cloE, Vam.look, sig, wrapN i (by omega)]) (by simp [wkBs, setBx, nthB, wkBx, wkL, okA, wkP, cloE, sig, wrapN i (by omega)]) (by simp) (by simp), by simp only; omega⟩
    · have hi' : l.length ≤ i := by simpa using hb
      refine AppG.by hE 9000 rfl rfl (by simp [rowLen]) (by simp; omega) ?_
      simp only [evX, reduceIte, reduceCtorEq, Nat.reduceLT, Nat.reduceAdd, Nat.reduceEqDiff, Nat.reduceBEq, Nat.reduceLeDiff, Nat.reduceMul, ttL, tyL, ht]
      refine AppG.by hE 9000 rfl rfl (by simp [rowLen]) (by simp; omega) ?_
      simp only [evX, reduceIte, reduceCtorEq, Nat.reduceLT, Nat.reduceAdd, Nat.reduceEqDiff, Nat.reduceBEq, Nat.reduceLeDiff, Nat.reduceMul, ttL, tyL, ht]
      rw [show namedsC l ++ [[.sc (.int .i64 q.id.who), .sc (.int .i64 q.id.no), .sl (idsC q.deps), .sc (.string q.text), .sl (primsC q.l)]] = namedsC (l ++ [q]) by simp]
      have eq1 : allN (l ++ [q]) = allN l ++ q.l := by rw [allN_append]; simp [allN]
      have lq : (allN [q]).length = q.l.length := by simp [allN]
      have ly : (allN (⟨q.id, q.deps, q.text, yl⟩ :: m)).length ≤ 200000 := by
        refine Nat.le_trans (allN_len (n := 10) fun p hp => ?_) (by simp only [List.length_cons, hml]; omega)
        rcases List.mem_cons.1 hp with rfl | hp
        · simp only [j4]; exact fewN_mem h2 q (by simp)
        · obtain ⟨k, hk, rfl⟩ := List.getElem_of_mem hp
          rw [(k2 k hk (by omega)).2.2.2]
          exact fewN_mem h2 _ (List.mem_append_left _ (List.getElem_mem _))
      have kym : ∀ p ∈ (⟨q.id, q.deps, q.text, yl⟩ :: m : List Named), okN p := fun p hp => by
        rcases List.mem_cons.1 hp with rfl | hp
        · exact ky
        · exact km p hp
      (refine CallG.ok hE 9000 (hP ▸ ok_patchApply t (l ++ [q]) nt ⟨by simp [Big]; omega, blq⟩ rlq (by rw [eq1, List.length_append]; omega) (by decide) (by decide)) rfl rfl ?_ <;> simp only [evX, reduceIte, reduceCtorEq, Nat.reduceLT, Nat.reduceAdd, Nat.reduceEqDiff, Nat.reduceBEq, Nat.reduceLeDiff, Nat.reduceMul, ttL, tyL, ht])
      refine ⟨by kernel_rfl, ?_⟩
      ((first | refine SelF.byN (fun hb => ?_) (fun hb => ?_) | refine SelF.by (fun hb => ?_) (fun hb => ?_)) <;> simp only [hb, evX, reduceIte, reduceCtorEq, Nat.reduceLT, Nat.reduceAdd, Nat.reduceEqDiff, Nat.reduceBEq, Nat.reduceLeDiff, Nat.reduceMul, ttL, tyL, ht])
      · exact RetQ.bool (.inr rfl) rfl rfl
      · have h6 : (runL t (allN (l ++ [q]))).2 = 0 := by simpa using hb
        have e := overN_run (treeMay_srt h3) (by rw [← eq1]; exact h6) ho
        simp only at e
        have ey : allN (⟨q.id, q.deps, q.text, yl⟩ :: m) = yl ++ allN m := by simp [allN]
        rw [← ey, ← eq1] at e
        refine AppG.by hE 9000 rfl rfl (by simp [rowLen]) (by simp; omega) ?_
        simp only [evX, reduceIte, reduceCtorEq, Nat.reduceLT, Nat.reduceAdd, Nat.reduceEqDiff, Nat.reduceBEq, Nat.reduceLeDiff, Nat.reduceMul, ttL, tyL, ht]
        (refine CallG.ok hE 9000 (hP ▸ ok_patchApply t (⟨q.id, q.deps, q.text, yl⟩ :: m) nt ⟨by simp [Big]; omega, fun p hp => (kym p hp).b⟩ (fun p hp => (kym p hp).r) ly (by decide) (by decide)) rfl rfl ?_ <;> simp only [evX, reduceIte, reduceCtorEq, Nat.reduceLT, Nat.reduceAdd, Nat.reduceEqDiff, Nat.reduceBEq, Nat.reduceLeDiff, Nat.reduceMul, ttL, tyL, ht])
        simp only [e, h6, evX, reduceIte, reduceCtorEq, Nat.reduceLT, Nat.reduceAdd, Nat.reduceEqDiff, Nat.reduceBEq, Nat.reduceLeDiff, Nat.reduceMul, ttL, tyL, ht, Int.reduceBEq]
        have hB : treeB (runL t (allN (l ++ [q]))).1 := (runL_N nt (allN_R rlq)).B (Nat.le_trans (m := 1000 * 40) (Nat.mul_le_mul_right _ (by rw [eq1, List.length_append]; omega)) (by decide)) (Nat.le_trans (m := 100000 * 16) (Nat.mul_le_mul_right _ (by rw [eq1, List.length_append]; omega)) (by decide))
        (refine CallG.ok hE 9000 (hP ▸ ok_treeSame (runL t (allN (l ++ [q]))).1 (runL t (allN (l ++ [q]))).1 hB) rfl rfl ?_ <;> simp only [evX, reduceIte, reduceCtorEq, Nat.reduceLT, Nat.reduceAdd, Nat.reduceEqDiff, Nat.reduceBEq, Nat.reduceLeDiff, Nat.reduceMul, ttL, tyL, ht])
        exact RetQ.bool (.inr rfl) rfl (treeEq_refl _)
end Go.Proofs.YtmijejoddoolpaaGreat
