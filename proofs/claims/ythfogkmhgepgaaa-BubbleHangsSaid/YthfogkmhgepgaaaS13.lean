/- The program's functions, walked (part 13). -/
import Derived.Test.YthfogkmhgepgaaaS12
import Derived.Test.YthfogkmhgepgaaaTj1
import Derived.Test.YthfogkmhgepgaaaTt2
import Derived.Test.YthfogkmhgepgaaaS10
/- What is picked: the program's way. -/
namespace Go.Proofs.Ythfogkmhgepgaaa.Px
open Go.Vam Go.Qm
set_option linter.unusedVariables false
set_option linter.unusedSimpArgs false
set_option maxRecDepth 8000
set_option maxHeartbeats 4000000

theorem pastN_keep {K : Named → Prop} (hK : ∀ p q x y, K p → K q → passN p q = some (x, y) → K x ∧ K y) {l : List Named} {p z : Named} {m : List Named} (h : pastN p l = some (m, z)) (hl : ∀ x ∈ l, K x) (hp : K p) : K z ∧ ∀ x ∈ m, K x := by
  induction l generalizing p m with
  | nil =>
    simp only [pastN, Option.some.injEq, Prod.mk.injEq] at h
    obtain ⟨rfl, rfl⟩ := h
    exact ⟨hp, by simp⟩
  | cons x l ih =>
    obtain ⟨y, p1, m', g1, g2, rfl⟩ := pastN_cons.1 h
    obtain ⟨k1, k2⟩ := hK _ _ _ _ hp (hl x (by simp)) g1
    obtain ⟨k3, k4⟩ := ih g2 (fun z hz => hl z (by simp [hz])) k2
    refine ⟨k3, fun z hz => ?_⟩
    rcases List.mem_cons.1 hz with rfl | hz
    · exact k1
    · exact k4 z hz
theorem pick_ok {ids : List Qm.Id} {l : List Named} (kl : ∀ p ∈ l, okN p) : (∀ x ∈ (pickN l ids).1, okN x) ∧ ∀ x ∈ (pickN l ids).2, okN x := by
  induction l with
  | nil => simp [pickN]
  | cons p l ih =>
    obtain ⟨i1, i2⟩ := ih fun x hx => kl x (by simp [hx])
    have kp := kl p (by simp)
    show (∀ x ∈ (pickS ids p (pickN l ids)).1, okN x) ∧ ∀ x ∈ (pickS ids p (pickN l ids)).2, okN x
    have hc : ∀ x ∈ p :: (pickN l ids).1, okN x := fun x hx => by
      rcases List.mem_cons.1 hx with rfl | hx
      · exact kp
      · exact i1 x hx
    unfold pickS
    split
    · exact ⟨hc, i2⟩
    · split
      · rename_i m x e
        obtain ⟨k1, k2⟩ := pastN_keep okN_pass e i1 kp
        refine ⟨k2, fun z hz => ?_⟩
        rcases List.mem_cons.1 hz with rfl | hz
        · exact k1
        · exact i2 z hz
      · exact ⟨hc, i2⟩
theorem pick_len {ids : List Qm.Id} (l : List Named) : (pickN l ids).1.length + (pickN l ids).2.length = l.length := by
  have := (pick_perm ids l).length_eq
  simpa [idsN] using this
theorem pick_drop {ids : List Qm.Id} {l : List Named} {j : Nat} (h0 : 0 < j) (h : j - 1 < l.length) : pickN (l.drop (j - 1)) ids = pickS ids l[j - 1] (pickN (l.drop j) ids) := by
  have e : l.drop (j - 1) = l[j - 1] :: l.drop j := by
    conv => lhs; rw [List.drop_eq_getElem_cons h, show j - 1 + 1 = j by omega]
  rw [e]
  rfl
theorem pastN_step {p q y q' : Named} {l m : List Named} {i : Nat} (hi : i < l.length) (h : pastN p (l.take i) = some (m, q)) (hp : passN q l[i] = some (y, q')) : pastN p (l.take (i + 1)) = some (m ++ [y], q') := by
  rw [List.take_add_one, List.getElem?_eq_getElem hi]
  exact pastN_append.2 ⟨m, q, [y], h, pastN_cons.2 ⟨y, q', [], hp, rfl, rfl⟩, rfl⟩
theorem pastN_fail {p q : Named} {l m : List Named} {i : Nat} (hi : i < l.length) (h : pastN p (l.take i) = some (m, q)) (hp : passN q l[i] = none) : pastN p l = none := by
  cases hs : pastN p l with
  | none => rfl
  | some r =>
    exfalso
    obtain ⟨m', z⟩ := r
    rw [← List.take_append_drop i l] at hs
    obtain ⟨a', y, b', g1, g2, _⟩ := pastN_append.1 hs
    rw [h] at g1
    simp only [Option.some.injEq, Prod.mk.injEq] at g1
    obtain ⟨rfl, rfl⟩ := g1
    rw [List.drop_eq_getElem_cons hi] at g2
    obtain ⟨_, _, _, g3, _⟩ := pastN_cons.1 g2
    rw [hp] at g3
    cases g3
theorem ok_Pick (l : List Named) (ids : List Qm.Id) (bl : l.length * 80 ≤ 140737488355328) (kl : ∀ p ∈ l, okN p) (hi : ids.length < 9223372036854775807) : Ok Try.prog 9 [namedsA l, idsA ids] (.v (.tup [namedsA (pickN l ids).1, namedsA (pickN l ids).2])) := by
  (refine Ok.code hT hM (fn := Try.f9) rfl rfl rfl _ _ rfl rfl (Nat.le_of_ble_eq_true rfl) fun E hE hP ht h0 hrd => ?_; refine Go.run hE 9000 ?_; simp only [Try.f9, evX, reduceIte, reduceCtorEq, Nat.reduceLT, Nat.reduceAdd, Nat.reduceEqDiff, Nat.reduceBEq, Nat.reduceLeDiff, Nat.reduceMul, ttL, tyL, ht])
  refine CloG.by hE 9000 ?_
  simp only [evX, reduceIte, reduceCtorEq, Nat.reduceLT, Nat.reduceAdd, Nat.reduceEqDiff, Nat.reduceBEq, Nat.reduceLeDiff, Nat.reduceMul, ttL, tyL, ht]
  (refine StG.by hE ht 9000 rfl ?_ <;> simp only [evX, reduceIte, reduceCtorEq, Nat.reduceLT, Nat.reduceAdd, Nat.reduceEqDiff, Nat.reduceBEq, Nat.reduceLeDiff, Nat.reduceMul, ttL, tyL, ht])
  (refine CallG.ok hE 9000 (hP ▸ ok_bubbleOwn l bl kl) rfl rfl ?_ <;> simp only [evX, reduceIte, reduceCtorEq, Nat.reduceLT, Nat.reduceAdd, Nat.reduceEqDiff, Nat.reduceBEq, Nat.reduceLeDiff, Nat.reduceMul, ttL, tyL, ht])
  (refine CallG.ok hE 9000 (hP ▸ ok_BackwardN l) rfl rfl ?_ <;> simp only [evX, reduceIte, reduceCtorEq, Nat.reduceLT, Nat.reduceAdd, Nat.reduceEqDiff, Nat.reduceBEq, Nat.reduceLeDiff, Nat.reduceMul, ttL, tyL, ht])
  refine Rng.by hE hP ht hrd (fn := Try.f27) rfl rfl rfl rfl _ _ rfl rfl _ rfl (Nat.le_of_ble_eq_true rfl) fun E' tm' ps' as' bd' hE' hP' ht' h0' hrd' htm hps has hbd => ?_
  refine Go.run hE' 9000 ?_
  simp only [Try.f27, evX, reduceIte, reduceCtorEq, Nat.reduceLT, Nat.reduceAdd, Nat.reduceEqDiff, Nat.reduceBEq, Nat.reduceLeDiff, Nat.reduceMul, ttL, tyL, ht']
  refine Go.nlC 1 0 32 5 rfl rfl ?_
  refine Go.nlC 1 1 32 5 rfl rfl ?_
  have h0' : E'.n0 = 4 := by rw [h0']; rfl
  refine Loop.by hE' (ι := {j : Nat // j ≤ l.length}) (fun j => ⟨19, [(0, .yld 3), (1, .pt [.sl (namedsC l)]), (3, intA ((j.1 : Int) - 1))], [.cells [idsA ids], .cells [.own 4, .own 5], .cells [.clo 20 [.ptr 1 0] []], .lp 34 tm' ps' as' bd' .ready none, .rows 32 5 (namedsC (pickN (l.drop j.1) ids).2), .rows 32 5 (namedsC (pickN (l.drop j.1) ids).1)], [], []⟩) (fun j => j.1) ⟨l.length, Nat.le_refl _⟩ 9000 ⟨[0, 1, 2, 3, 4, 5], ?_⟩ (by simp [h0']) ?_
  · subst htm
    refine Wk.of rfl (by simp) (by rw [h0']; simp [fixB]) ?_ ?_ (by simp) (by simp)
    · simp [wkT, okA, Vam.look, sig]
      rw [wrap64 (by omega) (by omega)]
    · simp [wkBs, setBx, nthB, wkBx, wkL, okA, wkP, cloE, sig, wkT, Vam.look, pickN]
  · rintro ⟨j, hj⟩
    have hj : j ≤ l.length := hj
    obtain ⟨k1, k2⟩ := pick_ok (ids := ids) (l := l.drop j) fun p hp => kl p (List.mem_of_mem_drop hp)
    have kle := pick_len (ids := ids) (l.drop j)
    rw [List.length_drop] at kle
    have hnx := fun h0 h => pick_drop (ids := ids) (l := l) (j := j) h0 h
    generalize hpt : pickN (l.drop j) ids = s at k1 k2 kle hnx
    obtain ⟨ap, st⟩ := s
    simp only at k1 k2 kle
    simp only [evX, reduceIte, reduceCtorEq, Nat.reduceLT, Nat.reduceAdd, Nat.reduceEqDiff, Nat.reduceBEq, Nat.reduceLeDiff, Nat.reduceMul, ttL, tyL, ht']
    ((first | refine SelF.byN (fun hb => ?_) (fun hb => ?_) | refine SelF.by (fun hb => ?_) (fun hb => ?_)) <;> simp only [hb, evX, reduceIte, reduceCtorEq, Nat.reduceLT, Nat.reduceAdd, Nat.reduceEqDiff, Nat.reduceBEq, Nat.reduceLeDiff, Nat.reduceMul, ttL, tyL, ht'])
    · simp only [decide_eq_true_eq] at hb
      have hj0 : 0 < j := by omega
      have hjm : j - 1 < l.length := by omega
      rw [show ((j : Int) - 1) = ((j - 1 : Nat) : Int) by omega]
      have hnx := hnx hj0 hjm
      have kp := kl _ (List.getElem_mem hjm)
      refine IdxR.nat hE' 9000 hjm rfl ?_
      simp only [evX, reduceIte, reduceCtorEq, Nat.reduceLT, Nat.reduceAdd, Nat.reduceEqDiff, Nat.reduceBEq, Nat.reduceLeDiff, Nat.reduceMul, ttL, tyL, ht']
      refine YldG.by hE' hP' ht' rfl rfl (by rw [hps]; rfl) (by rw [hps]; simp) fun E3 hE3 hP3 ht3 h03 => ?_
      refine Go.run hE3 9000 ?_
      simp only [htm, hps, has, hbd]
      simp only [evX, reduceIte, reduceCtorEq, Nat.reduceLT, Nat.reduceAdd, Nat.reduceEqDiff, Nat.reduceBEq, Nat.reduceLeDiff, Nat.reduceMul, ttL, tyL, ht3]
      refine StG.by hE3 ht3 9000 rfl ?_
      simp only [evX, reduceIte, reduceCtorEq, Nat.reduceLT, Nat.reduceAdd, Nat.reduceEqDiff, Nat.reduceBEq, Nat.reduceLeDiff, Nat.reduceMul, ttL, tyL, ht3]
      refine AsgQ.by hE3 9000 rfl rfl ?_
      simp only [evX, reduceIte, reduceCtorEq, Nat.reduceLT, Nat.reduceAdd, Nat.reduceEqDiff, Nat.reduceBEq, Nat.reduceLeDiff, Nat.reduceMul, ttL, tyL, ht3]
      refine CallG.ok hE3 9000 (hP3 ▸ ok_ContainsId ids l[j - 1].id (by omega)) rfl rfl ?_
      simp only [evX, reduceIte, reduceCtorEq, Nat.reduceLT, Nat.reduceAdd, Nat.reduceEqDiff, Nat.reduceBEq, Nat.reduceLeDiff, Nat.reduceMul, ttL, tyL, ht3]
      have hdef : (ids.any fun y => idEq y l[j - 1].id) = inIds ids l[j - 1] := rfl
      rw [hdef]
      refine CallI.inlD hE3 hP3 ht3 (fn := Try.f20) (by kernel_rfl) rfl rfl rfl _ _ rfl rfl _ rfl (Nat.le_of_ble_eq_true rfl) fun E4 hE4 hP4 ht4 h04 hrd4 => ?_
      refine Go.run hE4 9000 ?_
      simp only [Try.f20, evX, reduceIte, reduceCtorEq, Nat.reduceLT, Nat.reduceAdd, Nat.reduceEqDiff, Nat.reduceBEq, Nat.reduceLeDiff, Nat.reduceMul, ttL, tyL, ht4]
      refine StG.by hE4 ht4 9000 rfl ?_
      simp only [evX, reduceIte, reduceCtorEq, Nat.reduceLT, Nat.reduceAdd, Nat.reduceEqDiff, Nat.reduceBEq, Nat.reduceLeDiff, Nat.reduceMul, ttL, tyL, ht4]
      refine Go.nilT 6 32 5 rfl ?_
      have h04 : E4.n0 = 7 := by rw [h04]; rfl
      refine Loop.by hE4 (ι := {s : Nat × List Named × Named // s.1 ≤ ap.length ∧ pastN l[j - 1] (ap.take s.1) = some (s.2.1, s.2.2)}) (fun s => ⟨65, [(0, .ptr 1 0), (2, boolA (inIds ids l[j - 1])), (4, .ptr 7 0), (6, .own 9), (7, .ptr 8 0), (8, boolA true), (16, .own 5), (17, intA ap.length), (18, intA (s.1.1 : Int))], [.cells [idsA ids], .cells [.own 4, .own 5], .cells [.clo 20 [.ptr 1 0] []], .lp 34 tm' ps' as' bd' .busy none, .rows 32 5 (namedsC st), .rows 32 5 (namedsC ap), .cells ((namedC l[j - 1]).map .c), .cells ((namedC l[j - 1]).map .c), .cells ((namedC s.1.2.2).map .c), .rows 32 5 (namedsC s.1.2.1)], [], []⟩) (fun s => ap.length - s.1.1) ⟨(0, [], l[j - 1]), by omega, by simp [pastN]⟩ 9000 ⟨[0, 1, 2, 3, 4, 5, 6, 7, 8, 9], ?_⟩ (by simp [h04]) ?_
      · subst htm; subst hps; subst has; subst hbd
        refine Wk.of rfl (by simp) (by rw [h04]; simp [fixB]) ?_ ?_ (by simp) (by simp)
        · simp [wkT, okA, Vam.look, sig]
        · simp [wkBs, setBx, nthB, wkBx, wkL, okA, wkP, cloE, sig, wkT, Vam.look]
      · rintro ⟨⟨i, m, q⟩, hi, hone⟩
        simp only at hi hone
        have kq := pastN_keep okN_pass hone (fun x hx => k1 x (List.mem_of_mem_take hx)) kp
        simp only [evX, reduceIte, reduceCtorEq, Nat.reduceLT, Nat.reduceAdd, Nat.reduceEqDiff, Nat.reduceBEq, Nat.reduceLeDiff, Nat.reduceMul, ttL, tyL, ht4]
        ((first | refine SelF.byN (fun hb => ?_) (fun hb => ?_) | refine SelF.by (fun hb => ?_) (fun hb => ?_)) <;> simp only [hb, evX, reduceIte, reduceCtorEq, Nat.reduceLT, Nat.reduceAdd, Nat.reduceEqDiff, Nat.reduceBEq, Nat.reduceLeDiff, Nat.reduceMul, ttL, tyL, ht4])
        · simp only [decide_eq_true_eq] at hb
          have hlt : i < ap.length := by omega
          have hrow : (namedsC ap)[i]? = some (namedC ap[i]) := by rw [List.getElem?_map, List.getElem?_eq_getElem hlt]; rfl
          have kx := k1 _ (List.getElem_mem hlt)
          refine IdxO.by hE4 9000 (by omega) (by simp; omega) ?_
          try simp only [Int.toNat_natCast, Nat.sub_self]
          simp only [evX, reduceIte, reduceCtorEq, Nat.reduceLT, Nat.reduceAdd, Nat.reduceEqDiff, Nat.reduceBEq, Nat.reduceLeDiff, Nat.reduceMul, ttL, tyL, ht4]
          refine LdO.by hE4 (j := i) (row := namedC ap[i]) 9000 hrow (by simp) (by simp) ?_
          try simp only [Int.toNat_natCast, Nat.sub_self]
          simp only [evX, reduceIte, reduceCtorEq, Nat.reduceLT, Nat.reduceAdd, Nat.reduceEqDiff, Nat.reduceBEq, Nat.reduceLeDiff, Nat.reduceMul, ttL, tyL, ht4]
          refine StG.by hE4 ht4 9000 rfl ?_
          simp only [evX, reduceIte, reduceCtorEq, Nat.reduceLT, Nat.reduceAdd, Nat.reduceEqDiff, Nat.reduceBEq, Nat.reduceLeDiff, Nat.reduceMul, ttL, tyL, ht4]
          refine CallG.ok hE4 9000 (hP4 ▸ ok_tradePass q ap[i] kq.1 kx) rfl rfl ?_
          simp only [evX, reduceIte, reduceCtorEq, Nat.reduceLT, Nat.reduceAdd, Nat.reduceEqDiff, Nat.reduceBEq, Nat.reduceLeDiff, Nat.reduceMul, ttL, tyL, ht4]
          refine StG.by hE4 ht4 9000 rfl ?_
          simp only [evX, reduceIte, reduceCtorEq, Nat.reduceLT, Nat.reduceAdd, Nat.reduceEqDiff, Nat.reduceBEq, Nat.reduceLeDiff, Nat.reduceMul, ttL, tyL, ht4]
          refine StG.by hE4 ht4 9000 rfl ?_
          simp only [evX, reduceIte, reduceCtorEq, Nat.reduceLT, Nat.reduceAdd, Nat.reduceEqDiff, Nat.reduceBEq, Nat.reduceLeDiff, Nat.reduceMul, ttL, tyL, ht4]
          cases hs : passN q ap[i] with
          | none =>
            have e' : passNT q ap[i] = (namedZ, namedZ, false) := by rw [passNT, hs]
            have e : pastN l[j - 1] ap = none := pastN_fail hlt hone hs
            cases hin : inIds ids l[j - 1] <;> simp only [e', evX, reduceIte, reduceCtorEq, Nat.reduceLT, Nat.reduceAdd, Nat.reduceEqDiff, Nat.reduceBEq, Nat.reduceLeDiff, Nat.reduceMul, ttL, tyL, ht4, Bool.not_false, Bool.not_true]
            · have hst : pickN (l.drop (j - 1)) ids = (l[j - 1] :: ap, st) := by rw [hnx, pickS]; simp [hin, e]
              refine CallG.ins hE4 hP4 (i := 0) 9000 insOkNamed rfl rfl rfl rfl rfl (by decide) (Nat.zero_le _) (by simp; omega) ?_
              simp only [evX, reduceIte, reduceCtorEq, Nat.reduceLT, Nat.reduceAdd, Nat.reduceEqDiff, Nat.reduceBEq, Nat.reduceLeDiff, Nat.reduceMul, ttL, tyL, ht4]
              refine StG.byD hE4 ht4 9000 rfl (by kernel_rfl) ?_
              simp only [evX, reduceIte, reduceCtorEq, Nat.reduceLT, Nat.reduceAdd, Nat.reduceEqDiff, Nat.reduceBEq, Nat.reduceLeDiff, Nat.reduceMul, ttL, tyL, ht4]
              refine InlQ.by hE3 9000 (.inr rfl) rfl ?_
              simp only [evX, reduceIte, reduceCtorEq, Nat.reduceLT, Nat.reduceAdd, Nat.reduceEqDiff, Nat.reduceBEq, Nat.reduceLeDiff, Nat.reduceMul, ttL, tyL, ht3]
              subst htm; subst hps; subst has; subst hbd
              refine YldQ.normal hE' 9000 rfl rfl ?_
              simp only [evX, reduceIte, reduceCtorEq, Nat.reduceLT, Nat.reduceAdd, Nat.reduceEqDiff, Nat.reduceBEq, Nat.reduceLeDiff, Nat.reduceMul, ttL, tyL, ht']
              refine ⟨⟨j - 1, by omega⟩, [0, 1, 2, 3, 4, 13], Wk.of rfl (by simp) (by rw [h0']; simp [fixB]) ?_ ?_ (by simp) (by simp), by simp only; omega⟩
              · simp [wkT, okA, Vam.look, sig]
                rw [wrap64 (by omega) (by omega)]
              · simp [wkBs, setBx, nthB, wkBx, wkL, okA, wkP, cloE, sig, wkT, Vam.look, hst]
            · have hst : pickN (l.drop (j - 1)) ids = (l[j - 1] :: ap, st) := by rw [hnx, pickS]; simp [hin, e]
              refine CallG.ins hE4 hP4 (i := 0) 9000 insOkNamed rfl rfl rfl rfl rfl (by decide) (Nat.zero_le _) (by simp; omega) ?_
              simp only [evX, reduceIte, reduceCtorEq, Nat.reduceLT, Nat.reduceAdd, Nat.reduceEqDiff, Nat.reduceBEq, Nat.reduceLeDiff, Nat.reduceMul, ttL, tyL, ht4]
              refine StG.byD hE4 ht4 9000 rfl (by kernel_rfl) ?_
              simp only [evX, reduceIte, reduceCtorEq, Nat.reduceLT, Nat.reduceAdd, Nat.reduceEqDiff, Nat.reduceBEq, Nat.reduceLeDiff, Nat.reduceMul, ttL, tyL, ht4]
              refine InlQ.by hE3 9000 (.inr rfl) rfl ?_
              simp only [evX, reduceIte, reduceCtorEq, Nat.reduceLT, Nat.reduceAdd, Nat.reduceEqDiff, Nat.reduceBEq, Nat.reduceLeDiff, Nat.reduceMul, ttL, tyL, ht3]
              subst htm; subst hps; subst has; subst hbd
              refine YldQ.normal hE' 9000 rfl rfl ?_
              simp only [evX, reduceIte, reduceCtorEq, Nat.reduceLT, Nat.reduceAdd, Nat.reduceEqDiff, Nat.reduceBEq, Nat.reduceLeDiff, Nat.reduceMul, ttL, tyL, ht']
              refine ⟨⟨j - 1, by omega⟩, [0, 1, 2, 3, 4, 13], Wk.of rfl (by simp) (by rw [h0']; simp [fixB]) ?_ ?_ (by simp) (by simp), by simp only; omega⟩
              · simp [wkT, okA, Vam.look, sig]
                rw [wrap64 (by omega) (by omega)]
              · simp [wkBs, setBx, nthB, wkBx, wkL, okA, wkP, cloE, sig, wkT, Vam.look, hst]
          | some r =>
            have e' : passNT q ap[i] = (r.1, r.2, true) := by rw [passNT, hs]
            simp only [e', evX, reduceIte, reduceCtorEq, Nat.reduceLT, Nat.reduceAdd, Nat.reduceEqDiff, Nat.reduceBEq, Nat.reduceLeDiff, Nat.reduceMul, ttL, tyL, ht4, Bool.not_true]
            refine AppG.by hE4 9000 rfl rfl (by simp [rowLen]) (by have := (pastN_like hone).2.1; simp at this ⊢; omega) ?_
            simp only [evX, reduceIte, reduceCtorEq, Nat.reduceLT, Nat.reduceAdd, Nat.reduceEqDiff, Nat.reduceBEq, Nat.reduceLeDiff, Nat.reduceMul, ttL, tyL, ht4]
            subst htm; subst hps; subst has; subst hbd
            refine ⟨⟨(i + 1, m ++ [r.1], r.2), by simp only; omega, pastN_step hlt hone hs⟩, [0, 1, 2, 3, 4, 5, 6, 7, 8, 13], Wk.of rfl (by simp) (by rw [h04]; simp [fixB]) ?_ ?_ (by simp) (by simp), by simp only; omega⟩
            · simp [wkT, okA, Vam.look, sig]
              rw [wrap64 (by omega) (by omega)]
            · simp [wkBs, setBx, nthB, wkBx, wkL, okA, wkP, cloE, sig, wkT, Vam.look]
        · have hi' : i = ap.length := by simp at hb; omega
          subst hi'
          rw [List.take_length] at hone
          cases hin : inIds ids l[j - 1] <;> simp only [evX, reduceIte, reduceCtorEq, Nat.reduceLT, Nat.reduceAdd, Nat.reduceEqDiff, Nat.reduceBEq, Nat.reduceLeDiff, Nat.reduceMul, ttL, tyL, ht4, Bool.not_false, Bool.not_true]
          · have hst : pickN (l.drop (j - 1)) ids = (m, q :: st) := by rw [hnx, pickS]; simp [hin, hone]
            refine CallG.ins hE4 hP4 (i := 0) 9000 insOkNamed rfl rfl rfl rfl rfl (by decide) (Nat.zero_le _) (by simp; omega) ?_
            simp only [evX, reduceIte, reduceCtorEq, Nat.reduceLT, Nat.reduceAdd, Nat.reduceEqDiff, Nat.reduceBEq, Nat.reduceLeDiff, Nat.reduceMul, ttL, tyL, ht4]
            refine StG.byXW hE4 ht4 9000 rfl rfl rfl rfl rfl rfl rfl rfl rfl ?_
            simp only [evX, reduceIte, reduceCtorEq, Nat.reduceLT, Nat.reduceAdd, Nat.reduceEqDiff, Nat.reduceBEq, Nat.reduceLeDiff, Nat.reduceMul, ttL, tyL, ht4]
            refine StG.byD hE4 ht4 9000 rfl (by kernel_rfl) ?_
            simp only [evX, reduceIte, reduceCtorEq, Nat.reduceLT, Nat.reduceAdd, Nat.reduceEqDiff, Nat.reduceBEq, Nat.reduceLeDiff, Nat.reduceMul, ttL, tyL, ht4]
            refine InlQ.by hE3 9000 (.inl rfl) rfl ?_
            simp only [evX, reduceIte, reduceCtorEq, Nat.reduceLT, Nat.reduceAdd, Nat.reduceEqDiff, Nat.reduceBEq, Nat.reduceLeDiff, Nat.reduceMul, ttL, tyL, ht3]
            subst htm; subst hps; subst has; subst hbd
            refine YldQ.normal hE' 9000 rfl rfl ?_
            simp only [evX, reduceIte, reduceCtorEq, Nat.reduceLT, Nat.reduceAdd, Nat.reduceEqDiff, Nat.reduceBEq, Nat.reduceLeDiff, Nat.reduceMul, ttL, tyL, ht']
            refine ⟨⟨j - 1, by omega⟩, [0, 1, 2, 3, 11, 9], Wk.of rfl (by simp) (by rw [h0']; simp [fixB]) ?_ ?_ (by simp) (by simp), by simp only; omega⟩
            · simp [wkT, okA, Vam.look, sig]
              rw [wrap64 (by omega) (by omega)]
            · simp [wkBs, setBx, nthB, wkBx, wkL, okA, wkP, cloE, sig, wkT, Vam.look, hst]
          · have hst : pickN (l.drop (j - 1)) ids = (l[j - 1] :: ap, st) := by rw [hnx, pickS]; simp [hin]
            refine CallG.ins hE4 hP4 (i := 0) 9000 insOkNamed rfl rfl rfl rfl rfl (by decide) (Nat.zero_le _) (by simp; omega) ?_
            simp only [evX, reduceIte, reduceCtorEq, Nat.reduceLT, Nat.reduceAdd, Nat.reduceEqDiff, Nat.reduceBEq, Nat.reduceLeDiff, Nat.reduceMul, ttL, tyL, ht4]
            refine StG.byD hE4 ht4 9000 rfl (by kernel_rfl) ?_
            simp only [evX, reduceIte, reduceCtorEq, Nat.reduceLT, Nat.reduceAdd, Nat.reduceEqDiff, Nat.reduceBEq, Nat.reduceLeDiff, Nat.reduceMul, ttL, tyL, ht4]
            refine InlQ.by hE3 9000 (.inr rfl) rfl ?_
            simp only [evX, reduceIte, reduceCtorEq, Nat.reduceLT, Nat.reduceAdd, Nat.reduceEqDiff, Nat.reduceBEq, Nat.reduceLeDiff, Nat.reduceMul, ttL, tyL, ht3]
            subst htm; subst hps; subst has; subst hbd
            refine YldQ.normal hE' 9000 rfl rfl ?_
            simp only [evX, reduceIte, reduceCtorEq, Nat.reduceLT, Nat.reduceAdd, Nat.reduceEqDiff, Nat.reduceBEq, Nat.reduceLeDiff, Nat.reduceMul, ttL, tyL, ht']
            refine ⟨⟨j - 1, by omega⟩, [0, 1, 2, 3, 4, 11], Wk.of rfl (by simp) (by rw [h0']; simp [fixB]) ?_ ?_ (by simp) (by simp), by simp only; omega⟩
            · simp [wkT, okA, Vam.look, sig]
              rw [wrap64 (by omega) (by omega)]
            · simp [wkBs, setBx, nthB, wkBx, wkL, okA, wkP, cloE, sig, wkT, Vam.look, hst]
    · have hj0 : j = 0 := by simp at hb; omega
      subst hj0
      refine RngQ.by hE 9000 (.inl rfl) rfl rfl (by simp) rfl ?_
      simp only [htm]
      simp only [evX, reduceIte, reduceCtorEq, Nat.reduceLT, Nat.reduceAdd, Nat.reduceEqDiff, Nat.reduceBEq, Nat.reduceLeDiff, Nat.reduceMul, ttL, tyL, ht]
      refine ⟨by kernel_rfl, ?_⟩
      rw [List.drop_zero] at hpt
      rw [hpt]
      exact RetQ.two (.inr rfl) rfl rfl rfl rfl
end Go.Proofs.Ythfogkmhgepgaaa.Px

/- Chapter 16's laws on what hangs, and what is needed. -/
namespace Go.Proofs.Ythfogkmhgepgaaa
open Go.Vam Go.Qm
set_option linter.unusedVariables false
set_option linter.unusedSimpArgs false
set_option maxRecDepth 8000
set_option maxHeartbeats 4000000

def aw16a : Named := ⟨⟨0, 1⟩, [], ⟨#[]⟩, [⟨0, ⟨#[97]⟩, ⟨#[]⟩, hunkZ⟩]⟩
def aw16b : Named := ⟨⟨0, 2⟩, [], ⟨#[]⟩, [⟨0, ⟨#[98]⟩, ⟨#[]⟩, hunkZ⟩]⟩
def aw16c : Named := ⟨⟨0, 3⟩, [], ⟨#[]⟩, [⟨3, ⟨#[97]⟩, ⟨#[]⟩, ⟨0, [], [⟨#[120]⟩]⟩⟩]⟩
def aw16 : List Named := [aw16a, aw16b, aw16c]
theorem aw16p : partN aw16 [⟨0, 1⟩] = ([aw16b], [aw16a, aw16c]) := by kernel_rfl
theorem aw16q : pickN aw16 [⟨0, 3⟩] = ([aw16a, aw16c], [aw16b]) := by kernel_rfl
theorem aw16_ok : ∀ p ∈ aw16, okN p := by
  have k1 := aw15_ok ⟨#[97]⟩ (by decide) 1 (by simp [i64]) [] (by simp) (by simp)
  have k2 := aw15_ok ⟨#[98]⟩ (by decide) 2 (by simp [i64]) [] (by simp) (by simp)
  intro p hp
  simp only [aw16, List.mem_cons, List.mem_nil_iff, or_false] at hp
  rcases hp with rfl | rfl | rfl
  · exact k1
  · exact k2
  · refine ⟨⟨by simp [aw16c], by simp [aw16c, Big], by simp [aw16c, primB, hunkB, Big]⟩, ⟨⟨by simp [aw16c, i64], by simp [aw16c, i64]⟩, by simp [aw16c], fun q hq => ?_⟩⟩
    simp only [aw16c, List.mem_singleton] at hq
    subst hq
    exact ⟨by simp [i64], (show strZ (⟨#[97]⟩ : Str) by decide), (show strZ (⟨#[]⟩ : Str) by decide), by simp [i64], by simp [strsZ], fun s hs => by
      simp only [List.mem_singleton] at hs
      subst hs
      exact (show strZ (⟨#[120]⟩ : Str) by decide)⟩
theorem ok_awake16 : Ok Try.prog 5 [] (.v (boolA true)) := by
  have hp := ok_Part aw16 [⟨0, 1⟩] (by simp [aw16]) aw16_ok (by simp)
  have hq := Px.ok_Pick aw16 [⟨0, 3⟩] (by simp [aw16]) aw16_ok (by simp)
  rw [aw16p] at hp
  rw [aw16q] at hq
  (refine Ok.code hT hM (fn := Try.f5) rfl rfl rfl _ _ rfl rfl (Nat.le_of_ble_eq_true rfl) fun E hE hP ht h0 hrd => ?_; refine Go.run hE 9000 ?_; simp only [Try.f5, evX, reduceIte, reduceCtorEq, Nat.reduceLT, Nat.reduceAdd, Nat.reduceEqDiff, Nat.reduceBEq, Nat.reduceLeDiff, Nat.reduceMul, ttL, tyL, ht])
  refine HardOp.frz hE 9000 8 rfl rfl rfl ?_
  simp only [evX, reduceIte, reduceCtorEq, Nat.reduceLT, Nat.reduceAdd, Nat.reduceEqDiff, Nat.reduceBEq, Nat.reduceLeDiff, Nat.reduceMul, ttL, tyL, ht]
  refine HardOp.frz hE 9000 12 rfl rfl rfl ?_
  simp only [evX, reduceIte, reduceCtorEq, Nat.reduceLT, Nat.reduceAdd, Nat.reduceEqDiff, Nat.reduceBEq, Nat.reduceLeDiff, Nat.reduceMul, ttL, tyL, ht]
  refine HardOp.frz hE 9000 15 rfl rfl rfl ?_
  simp only [evX, reduceIte, reduceCtorEq, Nat.reduceLT, Nat.reduceAdd, Nat.reduceEqDiff, Nat.reduceBEq, Nat.reduceLeDiff, Nat.reduceMul, ttL, tyL, ht]
  refine HardOp.frz hE 9000 18 rfl rfl rfl ?_
  simp only [evX, reduceIte, reduceCtorEq, Nat.reduceLT, Nat.reduceAdd, Nat.reduceEqDiff, Nat.reduceBEq, Nat.reduceLeDiff, Nat.reduceMul, ttL, tyL, ht]
  (refine CallG.ok hE 9000 (hP ▸ hp) rfl rfl ?_ <;> simp only [evX, reduceIte, reduceCtorEq, Nat.reduceLT, Nat.reduceAdd, Nat.reduceEqDiff, Nat.reduceBEq, Nat.reduceLeDiff, Nat.reduceMul, ttL, tyL, ht])
  (refine CallG.ok hE 9000 (hP ▸ hq) rfl rfl ?_ <;> simp only [evX, reduceIte, reduceCtorEq, Nat.reduceLT, Nat.reduceAdd, Nat.reduceEqDiff, Nat.reduceBEq, Nat.reduceLeDiff, Nat.reduceMul, ttL, tyL, ht])
  have c1 : (((1 : Nat) : Int) == 1) = true := rfl
  have c2 : (((2 : Nat) : Int) == 2) = true := rfl
  have c3 : (((3 : Nat) : Int) == 3) = true := rfl
  have c4 : (aw16b.id.no == 2) = true := rfl
  simp only [c1, c2, evX, reduceIte, reduceCtorEq, Nat.reduceLT, Nat.reduceAdd, Nat.reduceEqDiff, Nat.reduceBEq, Nat.reduceLeDiff, Nat.reduceMul, ttL, tyL, ht]
  refine IdxR.nat (i := 0) (xs := [aw16b]) hE 9000 (by simp) rfl ?_
  simp only [evX, reduceIte, reduceCtorEq, Nat.reduceLT, Nat.reduceAdd, Nat.reduceEqDiff, Nat.reduceBEq, Nat.reduceLeDiff, Nat.reduceMul, ttL, tyL, ht]
  have c5 : ([aw16b][0].id.no == 2) = true := rfl
  simp only [c5, c2, c1, evX, reduceIte, reduceCtorEq, Nat.reduceLT, Nat.reduceAdd, Nat.reduceEqDiff, Nat.reduceBEq, Nat.reduceLeDiff, Nat.reduceMul, ttL, tyL, ht]
  refine IdxR.nat (i := 0) (xs := [aw16b]) hE 9000 (by simp) rfl ?_
  simp only [evX, reduceIte, reduceCtorEq, Nat.reduceLT, Nat.reduceAdd, Nat.reduceEqDiff, Nat.reduceBEq, Nat.reduceLeDiff, Nat.reduceMul, ttL, tyL, ht]
  simp only [c5, evX, reduceIte, reduceCtorEq, Nat.reduceLT, Nat.reduceAdd, Nat.reduceEqDiff, Nat.reduceBEq, Nat.reduceLeDiff, Nat.reduceMul, ttL, tyL, ht]
  (refine CallG.ok hE 9000 (hP ▸ ok_Ids aw16 (by simp [aw16])) rfl rfl ?_ <;> simp only [evX, reduceIte, reduceCtorEq, Nat.reduceLT, Nat.reduceAdd, Nat.reduceEqDiff, Nat.reduceBEq, Nat.reduceLeDiff, Nat.reduceMul, ttL, tyL, ht])
  exact RetQ.bool (.inr rfl) rfl rfl
theorem fewN_small {l : List Named} {n : Int} (h : fewN l n = true) : smallN 524288 l := fun p hp => by
  simp only [fewN, Bool.and_eq_true, List.all_eq_true] at h
  have h2 := h.2 p hp
  simp only [lightN, Bool.and_eq_true] at h2
  have := few_len h2.1.1
  exact ⟨by omega, few_atD h2.1.1⟩
theorem any_next {l : List Qm.Id} {i : Nat} (h : i < l.length) {f : Qm.Id → Bool} : ((l.take i).any f || f l[i]) = (l.take (i + 1)).any f := by
  rw [List.take_add_one, List.getElem?_eq_getElem h, List.any_append]
  simp
theorem law_BubbleHangs (l : List Named) (bl : namedsB l) (rl : ∀ p ∈ l, namedR p) (ids : List Qm.Id) (bi : ids.length * 16 ≤ Big) (ri : ∀ x ∈ ids, idR x) : Ok Try.prog 3 [namedsA l, idsA ids] (.v (boolA true)) := by
  have kl : ∀ p ∈ l, okN p := fun p hp => ⟨bl.2 p hp, rl p hp⟩
  have hll := bl.1
  simp only [Big] at hll bi
  (refine Ok.code hT hM (fn := Try.f3) rfl rfl rfl _ _ rfl rfl (Nat.le_of_ble_eq_true rfl) fun E hE hP ht h0 hrd => ?_; refine Go.run hE 9000 ?_; simp only [Try.f3, evX, reduceIte, reduceCtorEq, Nat.reduceLT, Nat.reduceAdd, Nat.reduceEqDiff, Nat.reduceBEq, Nat.reduceLeDiff, Nat.reduceMul, ttL, tyL, ht])
  (refine CallG.ok hE 9000 (hP ▸ ok_awake16) rfl rfl ?_ <;> simp only [evX, reduceIte, reduceCtorEq, Nat.reduceLT, Nat.reduceAdd, Nat.reduceEqDiff, Nat.reduceBEq, Nat.reduceLeDiff, Nat.reduceMul, ttL, tyL, ht])
  (refine CallG.ok hE 9000 (hP ▸ ok_fewN l 8 bl) rfl rfl ?_ <;> simp only [evX, reduceIte, reduceCtorEq, Nat.reduceLT, Nat.reduceAdd, Nat.reduceEqDiff, Nat.reduceBEq, Nat.reduceLeDiff, Nat.reduceMul, ttL, tyL, ht])
  cases h1 : fewN l 8 <;> simp only [evX, reduceIte, reduceCtorEq, Nat.reduceLT, Nat.reduceAdd, Nat.reduceEqDiff, Nat.reduceBEq, Nat.reduceLeDiff, Nat.reduceMul, ttL, tyL, ht, Bool.not_false, Bool.not_true]
  · exact RetQ.bool (.inr rfl) rfl rfl
  ((first | refine SelF.byN (fun hb => ?_) (fun hb => ?_) | refine SelF.by (fun hb => ?_) (fun hb => ?_)) <;> simp only [hb, evX, reduceIte, reduceCtorEq, Nat.reduceLT, Nat.reduceAdd, Nat.reduceEqDiff, Nat.reduceBEq, Nat.reduceLeDiff, Nat.reduceMul, ttL, tyL, ht])
  · exact RetQ.bool (.inr rfl) rfl rfl
  have ll := fewN_len h1
  have hh := part_hangs (ids := ids) (l := l) (by omega) (fewN_small h1)
  obtain ⟨_, k2⟩ := part_ok (ids := ids) kl
  have kle := part_len (ids := ids) l
  (refine CallG.ok hE 9000 (hP ▸ ok_Part l ids (by omega) kl (by omega)) rfl rfl ?_ <;> simp only [evX, reduceIte, reduceCtorEq, Nat.reduceLT, Nat.reduceAdd, Nat.reduceEqDiff, Nat.reduceBEq, Nat.reduceLeDiff, Nat.reduceMul, ttL, tyL, ht])
  generalize (partN l ids).2 = g at hh k2 kle
  refine Loop.by hE (ι := {i : Nat // i ≤ g.length}) (fun i => ⟨78, [(1, idsA ids), (8, namedsA g), (9, intA (i.1 : Int))], [], [], []⟩) (fun i => g.length - i.1) ⟨0, by simp⟩ 9000 ⟨[], Wk.of rfl (by simp) (by rw [h0]; trivial) (by simp [wkT, okA, wkP, cloE, Vam.look]) (by simp [wkBs]) (by simp) (by simp)⟩ (by simp [h0]) ?_
  rintro ⟨i, hi⟩
  have hi : i ≤ g.length := hi
  simp only [evX, reduceIte, reduceCtorEq, Nat.reduceLT, Nat.reduceAdd, Nat.reduceEqDiff, Nat.reduceBEq, Nat.reduceLeDiff, Nat.reduceMul, ttL, tyL, ht]
  ((first | refine SelF.byN (fun hb => ?_) (fun hb => ?_) | refine SelF.by (fun hb => ?_) (fun hb => ?_)) <;> simp only [hb, evX, reduceIte, reduceCtorEq, Nat.reduceLT, Nat.reduceAdd, Nat.reduceEqDiff, Nat.reduceBEq, Nat.reduceLeDiff, Nat.reduceMul, ttL, tyL, ht])
  · simp only [decide_eq_true_eq] at hb
    have hlt : i < g.length := by omega
    have kg := k2 _ (List.getElem_mem hlt)
    refine Loop.by hE (ι := {k : Nat // k ≤ ids.length}) (fun k => ⟨78, [(1, idsA ids), (8, namedsA g), (9, intA (i : Int)), (10, boolA ((ids.take k.1).any fun y => idEq y g[i].id)), (11, intA (k.1 : Int))], [], [], []⟩) (fun k => ids.length - k.1) ⟨0, by simp⟩ 9000 ⟨[], Wk.of rfl (by simp) (by rw [h0]; trivial) (by simp [wkT, okA, wkP, cloE, Vam.look, ]) (by simp [wkBs]) (by simp) (by simp)⟩ (by simp [h0]) ?_
    rintro ⟨k, hk⟩
    have hk : k ≤ ids.length := hk
    simp only [evX, reduceIte, reduceCtorEq, Nat.reduceLT, Nat.reduceAdd, Nat.reduceEqDiff, Nat.reduceBEq, Nat.reduceLeDiff, Nat.reduceMul, ttL, tyL, ht]
    ((first | refine SelF.byN (fun hb => ?_) (fun hb => ?_) | refine SelF.by (fun hb => ?_) (fun hb => ?_)) <;> simp only [hb, evX, reduceIte, reduceCtorEq, Nat.reduceLT, Nat.reduceAdd, Nat.reduceEqDiff, Nat.reduceBEq, Nat.reduceLeDiff, Nat.reduceMul, ttL, tyL, ht])
    · simp only [decide_eq_true_eq] at hb
      have hlt2 : k < ids.length := by omega
      have h9 := any_next hlt2 (f := fun y => idEq y g[i].id)
      cases hc : (ids.take k).any fun y => idEq y g[i].id
      · rw [hc, Bool.false_or] at h9
        simp only [evX, reduceIte, reduceCtorEq, Nat.reduceLT, Nat.reduceAdd, Nat.reduceEqDiff, Nat.reduceBEq, Nat.reduceLeDiff, Nat.reduceMul, ttL, tyL, ht, Bool.not_false]
        refine IdxR.nat hE 9000 hlt2 rfl ?_
        simp only [evX, reduceIte, reduceCtorEq, Nat.reduceLT, Nat.reduceAdd, Nat.reduceEqDiff, Nat.reduceBEq, Nat.reduceLeDiff, Nat.reduceMul, ttL, tyL, ht]
        refine IdxR.nat hE 9000 hlt rfl ?_
        simp only [evX, reduceIte, reduceCtorEq, Nat.reduceLT, Nat.reduceAdd, Nat.reduceEqDiff, Nat.reduceBEq, Nat.reduceLeDiff, Nat.reduceMul, ttL, tyL, ht]
        (refine HardOp.eqI hE 9000 rfl (hP ▸ eqT) rfl ?_ <;> simp only [evX, reduceIte, reduceCtorEq, Nat.reduceLT, Nat.reduceAdd, Nat.reduceEqDiff, Nat.reduceBEq, Nat.reduceLeDiff, Nat.reduceMul, ttL, tyL, ht])
        refine ⟨by kernel_rfl, ?_⟩
        have hc2 : (ids[k].who == g[i].id.who && ids[k].no == g[i].id.no) = idEq ids[k] g[i].id := rfl
        simp only [hc2, h9, evX, reduceIte, reduceCtorEq, Nat.reduceLT, Nat.reduceAdd, Nat.reduceEqDiff, Nat.reduceBEq, Nat.reduceLeDiff, Nat.reduceMul, ttL, tyL, ht]
        refine ⟨⟨k + 1, by omega⟩, [], Wk.of rfl (by simp) (by rw [h0]; trivial) (by simp [wkT, okA, wkP, cloE, Vam.look, wrapN k (by omega)]) (by simp [wkBs]) (by simp) (by simp), by simp only; omega⟩
      · rw [hc, Bool.true_or] at h9
        simp only [evX, reduceIte, reduceCtorEq, Nat.reduceLT, Nat.reduceAdd, Nat.reduceEqDiff, Nat.reduceBEq, Nat.reduceLeDiff, Nat.reduceMul, ttL, tyL, ht, Bool.not_true]
        refine ⟨by kernel_rfl, ?_⟩
        refine ⟨⟨k + 1, by omega⟩, [], Wk.of rfl (by simp) (by rw [h0]; trivial) (by simp [wkT, okA, wkP, cloE, Vam.look, wrapN k (by omega), ← h9]) (by simp [wkBs]) (by simp) (by simp), by simp only; omega⟩
    · have hi' : k = ids.length := by simp at hb; omega
      subst hi'
      rw [List.take_length]
      have hdef : (ids.any fun y => idEq y g[i].id) = inIds ids g[i] := rfl
      rw [hdef]
      have hhi := hh i hlt
      have hov := ok_Over (g.take i) g[i] (by simp; omega) (fun p hp => k2 p (List.mem_of_mem_take hp)) kg
      refine SlcR.by hE 9000 (by simp [rowLen]) (by simp) (by simp) (by simp; omega) ?_
      simp only [evX, reduceIte, reduceCtorEq, Nat.reduceLT, Nat.reduceAdd, Nat.reduceEqDiff, Nat.reduceBEq, Nat.reduceLeDiff, Nat.reduceMul, ttL, tyL, ht]
      refine IdxR.nat hE 9000 hlt rfl ?_
      simp only [evX, reduceIte, reduceCtorEq, Nat.reduceLT, Nat.reduceAdd, Nat.reduceEqDiff, Nat.reduceBEq, Nat.reduceLeDiff, Nat.reduceMul, ttL, tyL, ht]
      rw [show List.drop (Int.toNat 0) (List.take ((i : Int)).toNat (namedsC g)) = namedsC (g.take i) by rw [Int.toNat_natCast, Int.toNat_zero, List.drop_zero]; exact List.map_take.symm]
      cases ho : overN (g.take i) g[i] with
      | none =>
        rw [ho] at hov
        (refine CallG.ok hE 9000 (hP ▸ hov) rfl rfl ?_ <;> simp only [evX, reduceIte, reduceCtorEq, Nat.reduceLT, Nat.reduceAdd, Nat.reduceEqDiff, Nat.reduceBEq, Nat.reduceLeDiff, Nat.reduceMul, ttL, tyL, ht])
        simp only [retE, evX, reduceIte, reduceCtorEq, Nat.reduceLT, Nat.reduceAdd, Nat.reduceEqDiff, Nat.reduceBEq, Nat.reduceLeDiff, Nat.reduceMul, ttL, tyL, ht]
        (refine StG.byX hE ht 9000 rfl rfl ?_ <;> simp only [evX, reduceIte, reduceCtorEq, Nat.reduceLT, Nat.reduceAdd, Nat.reduceEqDiff, Nat.reduceBEq, Nat.reduceLeDiff, Nat.reduceMul, ttL, tyL, ht])
        refine ⟨by kernel_rfl, ?_⟩
        cases hin : inIds ids g[i] <;> simp only [evX, reduceIte, reduceCtorEq, Nat.reduceLT, Nat.reduceAdd, Nat.reduceEqDiff, Nat.reduceBEq, Nat.reduceLeDiff, Nat.reduceMul, ttL, tyL, ht, Bool.not_false, Bool.not_true]
        all_goals refine ⟨⟨i + 1, by omega⟩, [], Wk.of rfl (by simp) (by rw [h0]; trivial) (by simp [wkT, okA, wkP, cloE, Vam.look, wrapN i (by omega)]) (by simp [wkBs]) (by simp) (by simp), by simp only; omega⟩
      | some r =>
        rw [ho] at hov
        have hin : inIds ids g[i] = true := by
          rcases hhi with h | h
          · exact h
          · rw [ho] at h; cases h
        rw [hin]
        (refine CallG.ok hE 9000 (hP ▸ hov) rfl rfl ?_ <;> simp only [evX, reduceIte, reduceCtorEq, Nat.reduceLT, Nat.reduceAdd, Nat.reduceEqDiff, Nat.reduceBEq, Nat.reduceLeDiff, Nat.reduceMul, ttL, tyL, ht])
        simp only [retE, evX, reduceIte, reduceCtorEq, Nat.reduceLT, Nat.reduceAdd, Nat.reduceEqDiff, Nat.reduceBEq, Nat.reduceLeDiff, Nat.reduceMul, ttL, tyL, ht]
        (refine StG.byX hE ht 9000 rfl rfl ?_ <;> simp only [evX, reduceIte, reduceCtorEq, Nat.reduceLT, Nat.reduceAdd, Nat.reduceEqDiff, Nat.reduceBEq, Nat.reduceLeDiff, Nat.reduceMul, ttL, tyL, ht])
        refine ⟨by kernel_rfl, ?_⟩
        refine ⟨⟨i + 1, by omega⟩, [], Wk.of rfl (by simp) (by rw [h0]; trivial) (by simp [wkT, okA, wkP, cloE, Vam.look, wrapN i (by omega)]) (by simp [wkBs]) (by simp) (by simp), by simp only; omega⟩
  · exact RetQ.bool (.inr rfl) rfl rfl
theorem law_BubbleNeeds (l : List Named) (bl : namedsB l) (rl : ∀ p ∈ l, namedR p) (ids : List Qm.Id) (bi : ids.length * 16 ≤ Big) (ri : ∀ x ∈ ids, idR x) : Ok Try.prog 4 [namedsA l, idsA ids] (.v (boolA true)) := by
  have kl : ∀ p ∈ l, okN p := fun p hp => ⟨bl.2 p hp, rl p hp⟩
  have hll := bl.1
  simp only [Big] at hll bi
  (refine Ok.code hT hM (fn := Try.f4) rfl rfl rfl _ _ rfl rfl (Nat.le_of_ble_eq_true rfl) fun E hE hP ht h0 hrd => ?_; refine Go.run hE 9000 ?_; simp only [Try.f4, evX, reduceIte, reduceCtorEq, Nat.reduceLT, Nat.reduceAdd, Nat.reduceEqDiff, Nat.reduceBEq, Nat.reduceLeDiff, Nat.reduceMul, ttL, tyL, ht])
  (refine CallG.ok hE 9000 (hP ▸ ok_awake16) rfl rfl ?_ <;> simp only [evX, reduceIte, reduceCtorEq, Nat.reduceLT, Nat.reduceAdd, Nat.reduceEqDiff, Nat.reduceBEq, Nat.reduceLeDiff, Nat.reduceMul, ttL, tyL, ht])
  (refine CallG.ok hE 9000 (hP ▸ ok_fewN l 8 bl) rfl rfl ?_ <;> simp only [evX, reduceIte, reduceCtorEq, Nat.reduceLT, Nat.reduceAdd, Nat.reduceEqDiff, Nat.reduceBEq, Nat.reduceLeDiff, Nat.reduceMul, ttL, tyL, ht])
  cases h1 : fewN l 8 <;> simp only [evX, reduceIte, reduceCtorEq, Nat.reduceLT, Nat.reduceAdd, Nat.reduceEqDiff, Nat.reduceBEq, Nat.reduceLeDiff, Nat.reduceMul, ttL, tyL, ht, Bool.not_false, Bool.not_true]
  · exact RetQ.bool (.inr rfl) rfl rfl
  ((first | refine SelF.byN (fun hb => ?_) (fun hb => ?_) | refine SelF.by (fun hb => ?_) (fun hb => ?_)) <;> simp only [hb, evX, reduceIte, reduceCtorEq, Nat.reduceLT, Nat.reduceAdd, Nat.reduceEqDiff, Nat.reduceBEq, Nat.reduceLeDiff, Nat.reduceMul, ttL, tyL, ht])
  · exact RetQ.bool (.inr rfl) rfl rfl
  have ll := fewN_len h1
  have hh := pick_needs (ids := ids) (l := l) (by omega) (fewN_small h1)
  obtain ⟨k2, _⟩ := Px.pick_ok (ids := ids) kl
  have kle := Px.pick_len (ids := ids) l
  (refine CallG.ok hE 9000 (hP ▸ Px.ok_Pick l ids (by omega) kl (by omega)) rfl rfl ?_ <;> simp only [evX, reduceIte, reduceCtorEq, Nat.reduceLT, Nat.reduceAdd, Nat.reduceEqDiff, Nat.reduceBEq, Nat.reduceLeDiff, Nat.reduceMul, ttL, tyL, ht])
  generalize (pickN l ids).1 = g at hh k2 kle
  refine Loop.by hE (ι := {i : Nat // i ≤ g.length}) (fun i => ⟨96, [(1, idsA ids), (7, namedsA g), (9, intA (i.1 : Int))], [], [], []⟩) (fun i => g.length - i.1) ⟨0, by simp⟩ 9000 ⟨[], Wk.of rfl (by simp) (by rw [h0]; trivial) (by simp [wkT, okA, wkP, cloE, Vam.look]) (by simp [wkBs]) (by simp) (by simp)⟩ (by simp [h0]) ?_
  rintro ⟨i, hi⟩
  have hi : i ≤ g.length := hi
  simp only [evX, reduceIte, reduceCtorEq, Nat.reduceLT, Nat.reduceAdd, Nat.reduceEqDiff, Nat.reduceBEq, Nat.reduceLeDiff, Nat.reduceMul, ttL, tyL, ht]
  ((first | refine SelF.byN (fun hb => ?_) (fun hb => ?_) | refine SelF.by (fun hb => ?_) (fun hb => ?_)) <;> simp only [hb, evX, reduceIte, reduceCtorEq, Nat.reduceLT, Nat.reduceAdd, Nat.reduceEqDiff, Nat.reduceBEq, Nat.reduceLeDiff, Nat.reduceMul, ttL, tyL, ht])
  · simp only [decide_eq_true_eq] at hb
    have hlt : i < g.length := by omega
    have kg := k2 _ (List.getElem_mem hlt)
    refine Loop.by hE (ι := {k : Nat // k ≤ ids.length}) (fun k => ⟨96, [(1, idsA ids), (7, namedsA g), (9, intA (i : Int)), (10, boolA ((ids.take k.1).any fun y => idEq y g[i].id)), (11, intA (k.1 : Int))], [], [], []⟩) (fun k => ids.length - k.1) ⟨0, by simp⟩ 9000 ⟨[], Wk.of rfl (by simp) (by rw [h0]; trivial) (by simp [wkT, okA, wkP, cloE, Vam.look, ]) (by simp [wkBs]) (by simp) (by simp)⟩ (by simp [h0]) ?_
    rintro ⟨k, hk⟩
    have hk : k ≤ ids.length := hk
    simp only [evX, reduceIte, reduceCtorEq, Nat.reduceLT, Nat.reduceAdd, Nat.reduceEqDiff, Nat.reduceBEq, Nat.reduceLeDiff, Nat.reduceMul, ttL, tyL, ht]
    ((first | refine SelF.byN (fun hb => ?_) (fun hb => ?_) | refine SelF.by (fun hb => ?_) (fun hb => ?_)) <;> simp only [hb, evX, reduceIte, reduceCtorEq, Nat.reduceLT, Nat.reduceAdd, Nat.reduceEqDiff, Nat.reduceBEq, Nat.reduceLeDiff, Nat.reduceMul, ttL, tyL, ht])
    · simp only [decide_eq_true_eq] at hb
      have hlt2 : k < ids.length := by omega
      have h9 := any_next hlt2 (f := fun y => idEq y g[i].id)
      cases hc : (ids.take k).any fun y => idEq y g[i].id
      · rw [hc, Bool.false_or] at h9
        simp only [evX, reduceIte, reduceCtorEq, Nat.reduceLT, Nat.reduceAdd, Nat.reduceEqDiff, Nat.reduceBEq, Nat.reduceLeDiff, Nat.reduceMul, ttL, tyL, ht, Bool.not_false]
        refine IdxR.nat hE 9000 hlt2 rfl ?_
        simp only [evX, reduceIte, reduceCtorEq, Nat.reduceLT, Nat.reduceAdd, Nat.reduceEqDiff, Nat.reduceBEq, Nat.reduceLeDiff, Nat.reduceMul, ttL, tyL, ht]
        refine IdxR.nat hE 9000 hlt rfl ?_
        simp only [evX, reduceIte, reduceCtorEq, Nat.reduceLT, Nat.reduceAdd, Nat.reduceEqDiff, Nat.reduceBEq, Nat.reduceLeDiff, Nat.reduceMul, ttL, tyL, ht]
        (refine HardOp.eqI hE 9000 rfl (hP ▸ eqT) rfl ?_ <;> simp only [evX, reduceIte, reduceCtorEq, Nat.reduceLT, Nat.reduceAdd, Nat.reduceEqDiff, Nat.reduceBEq, Nat.reduceLeDiff, Nat.reduceMul, ttL, tyL, ht])
        refine ⟨by kernel_rfl, ?_⟩
        have hc2 : (ids[k].who == g[i].id.who && ids[k].no == g[i].id.no) = idEq ids[k] g[i].id := rfl
        simp only [hc2, h9, evX, reduceIte, reduceCtorEq, Nat.reduceLT, Nat.reduceAdd, Nat.reduceEqDiff, Nat.reduceBEq, Nat.reduceLeDiff, Nat.reduceMul, ttL, tyL, ht]
        refine ⟨⟨k + 1, by omega⟩, [], Wk.of rfl (by simp) (by rw [h0]; trivial) (by simp [wkT, okA, wkP, cloE, Vam.look, wrapN k (by omega)]) (by simp [wkBs]) (by simp) (by simp), by simp only; omega⟩
      · rw [hc, Bool.true_or] at h9
        simp only [evX, reduceIte, reduceCtorEq, Nat.reduceLT, Nat.reduceAdd, Nat.reduceEqDiff, Nat.reduceBEq, Nat.reduceLeDiff, Nat.reduceMul, ttL, tyL, ht, Bool.not_true]
        refine ⟨by kernel_rfl, ?_⟩
        refine ⟨⟨k + 1, by omega⟩, [], Wk.of rfl (by simp) (by rw [h0]; trivial) (by simp [wkT, okA, wkP, cloE, Vam.look, wrapN k (by omega), ← h9]) (by simp [wkBs]) (by simp) (by simp), by simp only; omega⟩
    · have hi' : k = ids.length := by simp at hb; omega
      subst hi'
      rw [List.take_length]
      have hdef : (ids.any fun y => idEq y g[i].id) = inIds ids g[i] := rfl
      rw [hdef]
      have hhi := hh i hlt
      refine IdxR.nat hE 9000 hlt rfl ?_
      simp only [evX, reduceIte, reduceCtorEq, Nat.reduceLT, Nat.reduceAdd, Nat.reduceEqDiff, Nat.reduceBEq, Nat.reduceLeDiff, Nat.reduceMul, ttL, tyL, ht]
      (refine StG.by hE ht 9000 rfl ?_ <;> simp only [evX, reduceIte, reduceCtorEq, Nat.reduceLT, Nat.reduceAdd, Nat.reduceEqDiff, Nat.reduceBEq, Nat.reduceLeDiff, Nat.reduceMul, ttL, tyL, ht])
      refine Loop.by hE (ι := {s : Nat × Bool × List Named × Named // i + 1 ≤ s.1 ∧ s.1 ≤ g.length ∧ okN s.2.2.2 ∧ (if s.2.1 = true then pastN g[i] ((g.drop (i + 1)).take (s.1 - (i + 1))) = some (s.2.2.1, s.2.2.2) else pastN g[i] (g.drop (i + 1)) = none)}) (fun s => ⟨96, [(1, idsA ids), (7, namedsA g), (9, intA (i : Int)), (10, boolA (inIds ids g[i])), (12, .ptr 0 0), (13, boolA s.1.2.1), (14, intA (s.1.1 : Int))], [.cells ((namedC s.1.2.2.2).map .c)], [], []⟩) (fun s => g.length - s.1.1) ⟨(i + 1, true, [], g[i]), by simp, by simp only; omega, kg, by simp [pastN]⟩ 9000 ⟨[0], ?_⟩ (by simp [h0]) ?_
      · refine Wk.of rfl (by simp) (by rw [h0]; trivial) ?_ ?_ (by simp) (by simp)
        · simp [wkT, okA, Vam.look, sig]
          rw [wrap64 (by omega) (by omega)]
        · simp [wkBs, nthB, wkBx, wkL, okA, sig, wkT, Vam.look]
      · rintro ⟨⟨j, f, m, q⟩, hij, hj, kq, hone⟩
        simp only at hij hj kq hone
        simp only [evX, reduceIte, reduceCtorEq, Nat.reduceLT, Nat.reduceAdd, Nat.reduceEqDiff, Nat.reduceBEq, Nat.reduceLeDiff, Nat.reduceMul, ttL, tyL, ht]
        ((first | refine SelF.byN (fun hb => ?_) (fun hb => ?_) | refine SelF.by (fun hb => ?_) (fun hb => ?_)) <;> simp only [hb, evX, reduceIte, reduceCtorEq, Nat.reduceLT, Nat.reduceAdd, Nat.reduceEqDiff, Nat.reduceBEq, Nat.reduceLeDiff, Nat.reduceMul, ttL, tyL, ht])
        · simp only [decide_eq_true_eq] at hb
          have hjl : j < g.length := by omega
          cases f
          · simp only [evX, reduceIte, reduceCtorEq, Nat.reduceLT, Nat.reduceAdd, Nat.reduceEqDiff, Nat.reduceBEq, Nat.reduceLeDiff, Nat.reduceMul, ttL, tyL, ht]
            cases hin : inIds ids g[i] <;> simp only [evX, reduceIte, reduceCtorEq, Nat.reduceLT, Nat.reduceAdd, Nat.reduceEqDiff, Nat.reduceBEq, Nat.reduceLeDiff, Nat.reduceMul, ttL, tyL, ht, Bool.not_false, Bool.not_true]
            all_goals refine ⟨⟨i + 1, by omega⟩, [], Wk.of rfl (by simp) (by rw [h0]; trivial) (by simp [wkT, okA, wkP, cloE, Vam.look, wrapN i (by omega)]) (by simp [wkBs]) (by simp) (by simp), by simp only; omega⟩
          · simp only [if_true] at hone
            simp only [evX, reduceIte, reduceCtorEq, Nat.reduceLT, Nat.reduceAdd, Nat.reduceEqDiff, Nat.reduceBEq, Nat.reduceLeDiff, Nat.reduceMul, ttL, tyL, ht]
            have kx := k2 _ (List.getElem_mem hjl)
            have hdl : j - (i + 1) < (g.drop (i + 1)).length := by simp; omega
            have hge : (g.drop (i + 1))[j - (i + 1)] = g[j] := by rw [List.getElem_drop]; congr 1; omega
            refine IdxR.nat hE 9000 hjl rfl ?_
            simp only [evX, reduceIte, reduceCtorEq, Nat.reduceLT, Nat.reduceAdd, Nat.reduceEqDiff, Nat.reduceBEq, Nat.reduceLeDiff, Nat.reduceMul, ttL, tyL, ht]
            (refine CallG.ok hE 9000 (hP ▸ ok_tradePass q g[j] kq kx) rfl rfl ?_ <;> simp only [evX, reduceIte, reduceCtorEq, Nat.reduceLT, Nat.reduceAdd, Nat.reduceEqDiff, Nat.reduceBEq, Nat.reduceLeDiff, Nat.reduceMul, ttL, tyL, ht])
            (refine StG.byX hE ht 9000 rfl rfl ?_ <;> simp only [evX, reduceIte, reduceCtorEq, Nat.reduceLT, Nat.reduceAdd, Nat.reduceEqDiff, Nat.reduceBEq, Nat.reduceLeDiff, Nat.reduceMul, ttL, tyL, ht])
            (refine StG.byX hE ht 9000 rfl rfl ?_ <;> simp only [evX, reduceIte, reduceCtorEq, Nat.reduceLT, Nat.reduceAdd, Nat.reduceEqDiff, Nat.reduceBEq, Nat.reduceLeDiff, Nat.reduceMul, ttL, tyL, ht])
            refine ⟨by kernel_rfl, ?_⟩
            cases hs : passN q g[j] with
            | none =>
              have e' : passNT q g[j] = (namedZ, namedZ, false) := by rw [passNT, hs]
              simp only [e', evX, reduceIte, reduceCtorEq, Nat.reduceLT, Nat.reduceAdd, Nat.reduceEqDiff, Nat.reduceBEq, Nat.reduceLeDiff, Nat.reduceMul, ttL, tyL, ht]
              (refine StG.by hE ht 9000 rfl ?_ <;> simp only [evX, reduceIte, reduceCtorEq, Nat.reduceLT, Nat.reduceAdd, Nat.reduceEqDiff, Nat.reduceBEq, Nat.reduceLeDiff, Nat.reduceMul, ttL, tyL, ht])
              have e := Px.pastN_fail hdl hone (by rw [hge]; exact hs)
              refine ⟨⟨(j + 1, false, [], namedZ), by simp only; omega, by simp only; omega, namedZ_ok, by simpa using e⟩, [0], Wk.of rfl (by simp) (by rw [h0]; trivial) ?_ ?_ (by simp) (by simp), by simp only; omega⟩
              · simp [wkT, okA, Vam.look, sig]
                rw [wrap64 (by omega) (by omega)]
              · simp [wkBs, nthB, wkBx, wkL, okA, sig, wkT, Vam.look]
            | some r =>
              have e' : passNT q g[j] = (r.1, r.2, true) := by rw [passNT, hs]
              simp only [e', evX, reduceIte, reduceCtorEq, Nat.reduceLT, Nat.reduceAdd, Nat.reduceEqDiff, Nat.reduceBEq, Nat.reduceLeDiff, Nat.reduceMul, ttL, tyL, ht]
              (refine StG.by hE ht 9000 rfl ?_ <;> simp only [evX, reduceIte, reduceCtorEq, Nat.reduceLT, Nat.reduceAdd, Nat.reduceEqDiff, Nat.reduceBEq, Nat.reduceLeDiff, Nat.reduceMul, ttL, tyL, ht])
              have e := Px.pastN_step hdl hone (by rw [hge]; exact hs)
              refine ⟨⟨(j + 1, true, m ++ [r.1], r.2), by simp only; omega, by simp only; omega, (okN_pass q g[j] r.1 r.2 kq kx hs).2, by simp only [if_true]; rw [show j + 1 - (i + 1) = j - (i + 1) + 1 by omega]; exact e⟩, [0], Wk.of rfl (by simp) (by rw [h0]; trivial) ?_ ?_ (by simp) (by simp), by simp only; omega⟩
              · simp [wkT, okA, Vam.look, sig]
                rw [wrap64 (by omega) (by omega)]
              · simp [wkBs, nthB, wkBx, wkL, okA, sig, wkT, Vam.look]
        · have hj' : j = g.length := by simp at hb; omega
          subst hj'
          cases f
          · cases hin : inIds ids g[i] <;> simp only [evX, reduceIte, reduceCtorEq, Nat.reduceLT, Nat.reduceAdd, Nat.reduceEqDiff, Nat.reduceBEq, Nat.reduceLeDiff, Nat.reduceMul, ttL, tyL, ht, Bool.not_false, Bool.not_true]
            all_goals refine ⟨⟨i + 1, by omega⟩, [], Wk.of rfl (by simp) (by rw [h0]; trivial) (by simp [wkT, okA, wkP, cloE, Vam.look, wrapN i (by omega)]) (by simp [wkBs]) (by simp) (by simp), by simp only; omega⟩
          · simp only [if_true] at hone
            rw [List.take_of_length_le (by simp)] at hone
            have hin : inIds ids g[i] = true := by
              rcases hhi with h | h
              · exact h
              · rw [hone] at h; cases h
            simp only [hin, evX, reduceIte, reduceCtorEq, Nat.reduceLT, Nat.reduceAdd, Nat.reduceEqDiff, Nat.reduceBEq, Nat.reduceLeDiff, Nat.reduceMul, ttL, tyL, ht, Bool.not_true]
            refine ⟨⟨i + 1, by omega⟩, [], Wk.of rfl (by simp) (by rw [h0]; trivial) (by simp [wkT, okA, wkP, cloE, Vam.look, wrapN i (by omega)]) (by simp [wkBs]) (by simp) (by simp), by simp only; omega⟩
  · exact RetQ.bool (.inr rfl) rfl rfl
end Go.Proofs.Ythfogkmhgepgaaa
