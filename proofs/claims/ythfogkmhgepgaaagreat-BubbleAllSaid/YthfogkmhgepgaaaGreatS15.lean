/- The program's functions, walked (part 15). -/
import Derived.Test.YthfogkmhgepgaaaGreatS14
import Derived.Test.YthfogkmhgepgaaaGreatTj1
import Derived.Test.YthfogkmhgepgaaaGreatTt2
import Derived.Test.YthfogkmhgepgaaaGreatTh5
import Derived.Test.YthfogkmhgepgaaaGreatG11
/- What is picked: the program's way. -/
namespace Go.Proofs.YthfogkmhgepgaaaGreat.Px
open Go.Vam Go.Qm
set_option linter.unusedVariables false
set_option linter.unusedSimpArgs false
set_option maxRecDepth 8000
set_option maxHeartbeats 4000000

theorem pastN_keep {K : Named → Prop} (hK : ∀ p q x y, K p → K q → passN p q = some (x, y) → K x ∧ K y) {l : List Named} {p z : Named} {m : List Named} (h : pastN p l = some (m, z)) (hl : ∀ x ∈ l, K x) (hp : K p) : K z ∧ ∀ x ∈ m, K x := by
  induction l generalizing p m with
  | nil =>
    simp only [pastN, Option.some.injEq, Prod.mk.injEq] at h
    obtain ⟨rfl, rfl⟩ := h
    exact ⟨hp, by simp⟩
  | cons x l ih =>
    obtain ⟨y, p1, m', g1, g2, rfl⟩ := pastN_cons.1 h
    obtain ⟨k1, k2⟩ := hK _ _ _ _ hp (hl x (by simp)) g1
    obtain ⟨k3, k4⟩ := ih g2 (fun z hz => hl z (by simp [hz])) k2
    refine ⟨k3, fun z hz => ?_⟩
    rcases List.mem_cons.1 hz with rfl | hz
    · exact k1
    · exact k4 z hz
theorem pick_ok {ids : List Qm.Id} {l : List Named} (kl : ∀ p ∈ l, okN p) : (∀ x ∈ (pickN l ids).1, okN x) ∧ ∀ x ∈ (pickN l ids).2, okN x := by
  induction l with
  | nil => simp [pickN]
  | cons p l ih =>
    obtain ⟨i1, i2⟩ := ih fun x hx => kl x (by simp [hx])
    have kp := kl p (by simp)
    show (∀ x ∈ (pickS ids p (pickN l ids)).1, okN x) ∧ ∀ x ∈ (pickS ids p (pickN l ids)).2, okN x
    have hc : ∀ x ∈ p :: (pickN l ids).1, okN x := fun x hx => by
      rcases List.mem_cons.1 hx with rfl | hx
      · exact kp
      · exact i1 x hx
    unfold pickS
    split
    · exact ⟨hc, i2⟩
    · split
      · rename_i m x e
        obtain ⟨k1, k2⟩ := pastN_keep okN_pass e i1 kp
        refine ⟨k2, fun z hz => ?_⟩
        rcases List.mem_cons.1 hz with rfl | hz
        · exact k1
        · exact i2 z hz
      · exact ⟨hc, i2⟩
theorem pick_len {ids : List Qm.Id} (l : List Named) : (pickN l ids).1.length + (pickN l ids).2.length = l.length := by
  have := (pick_perm ids l).length_eq
  simpa [idsN] using this
theorem pick_drop {ids : List Qm.Id} {l : List Named} {j : Nat} (h0 : 0 < j) (h : j - 1 < l.length) : pickN (l.drop (j - 1)) ids = pickS ids l[j - 1] (pickN (l.drop j) ids) := by
  have e : l.drop (j - 1) = l[j - 1] :: l.drop j := by
    conv => lhs; rw [List.drop_eq_getElem_cons h, show j - 1 + 1 = j by omega]
  rw [e]
  rfl
theorem pastN_step {p q y q' : Named} {l m : List Named} {i : Nat} (hi : i < l.length) (h : pastN p (l.take i) = some (m, q)) (hp : passN q l[i] = some (y, q')) : pastN p (l.take (i + 1)) = some (m ++ [y], q') := by
  rw [List.take_add_one, List.getElem?_eq_getElem hi]
  exact pastN_append.2 ⟨m, q, [y], h, pastN_cons.2 ⟨y, q', [], hp, rfl, rfl⟩, rfl⟩
theorem pastN_fail {p q : Named} {l m : List Named} {i : Nat} (hi : i < l.length) (h : pastN p (l.take i) = some (m, q)) (hp : passN q l[i] = none) : pastN p l = none := by
  cases hs : pastN p l with
  | none => rfl
  | some r =>
    exfalso
    obtain ⟨m', z⟩ := r
    rw [← List.take_append_drop i l] at hs
    obtain ⟨a', y, b', g1, g2, _⟩ := pastN_append.1 hs
    rw [h] at g1
    simp only [Option.some.injEq, Prod.mk.injEq] at g1
    obtain ⟨rfl, rfl⟩ := g1
    rw [List.drop_eq_getElem_cons hi] at g2
    obtain ⟨_, _, _, g3, _⟩ := pastN_cons.1 g2
    rw [hp] at g3
    cases g3
theorem ok_Pick (l : List Named) (ids : List Qm.Id) (bl : l.length * 80 ≤ 140737488355328) (kl : ∀ p ∈ l, okN p) (hi : ids.length < 9223372036854775807) : Ok Tryz.prog 13 [namedsA l, idsA ids] (.v (.tup [namedsA (pickN l ids).1, namedsA (pickN l ids).2])) := by
  (refine Ok.code hT hM (fn := Tryz.f13) rfl rfl rfl _ _ rfl rfl (Nat.le_of_ble_eq_true rfl) fun E hE hP ht h0 hrd => ?_; refine Go.run hE 9000 ?_; simp only [Tryz.f13, evX, reduceIte, reduceCtorEq, Nat.reduceLT, Nat.reduceAdd, Nat.reduceEqDiff, Nat.reduceBEq, Nat.reduceLeDiff, Nat.reduceMul, ttL, tyL, ht])
  refine CloG.by hE 9000 ?_
  simp only [evX, reduceIte, reduceCtorEq, Nat.reduceLT, Nat.reduceAdd, Nat.reduceEqDiff, Nat.reduceBEq, Nat.reduceLeDiff, Nat.reduceMul, ttL, tyL, ht]
  (refine StG.by hE ht 9000 rfl ?_ <;> simp only [evX, reduceIte, reduceCtorEq, Nat.reduceLT, Nat.reduceAdd, Nat.reduceEqDiff, Nat.reduceBEq, Nat.reduceLeDiff, Nat.reduceMul, ttL, tyL, ht])
  (refine CallG.ok hE 9000 (hP ▸ ok_bubbleOwn l bl kl) rfl rfl ?_ <;> simp only [evX, reduceIte, reduceCtorEq, Nat.reduceLT, Nat.reduceAdd, Nat.reduceEqDiff, Nat.reduceBEq, Nat.reduceLeDiff, Nat.reduceMul, ttL, tyL, ht])
  (refine CallG.ok hE 9000 (hP ▸ ok_BackwardN l) rfl rfl ?_ <;> simp only [evX, reduceIte, reduceCtorEq, Nat.reduceLT, Nat.reduceAdd, Nat.reduceEqDiff, Nat.reduceBEq, Nat.reduceLeDiff, Nat.reduceMul, ttL, tyL, ht])
  refine Rng.by hE hP ht hrd (fn := Tryz.f50) rfl rfl rfl rfl _ _ rfl rfl _ rfl (Nat.le_of_ble_eq_true rfl) fun E' tm' ps' as' bd' hE' hP' ht' h0' hrd' htm hps has hbd => ?_
  refine Go.run hE' 9000 ?_
  simp only [Tryz.f50, evX, reduceIte, reduceCtorEq, Nat.reduceLT, Nat.reduceAdd, Nat.reduceEqDiff, Nat.reduceBEq, Nat.reduceLeDiff, Nat.reduceMul, ttL, tyL, ht']
  refine Go.nlC 1 0 37 5 rfl rfl ?_
  refine Go.nlC 1 1 37 5 rfl rfl ?_
  have h0' : E'.n0 = 4 := by rw [h0']; rfl
  refine Loop.by hE' (ι := {j : Nat // j ≤ l.length}) (fun j => ⟨19, [(0, .yld 3), (1, .pt [.sl (namedsC l)]), (3, intA ((j.1 : Int) - 1))], [.cells [idsA ids], .cells [.own 4, .own 5], .cells [.clo 30 [.ptr 1 0] []], .lp 34 tm' ps' as' bd' .ready none, .rows 37 5 (namedsC (pickN (l.drop j.1) ids).2), .rows 37 5 (namedsC (pickN (l.drop j.1) ids).1)], [], []⟩) (fun j => j.1) ⟨l.length, Nat.le_refl _⟩ 9000 ⟨[0, 1, 2, 3, 4, 5], ?_⟩ (by simp [h0']) ?_
  · subst htm
    refine Wk.of rfl (by simp) (by rw [h0']; simp [fixB]) ?_ ?_ (by simp) (by simp)
    · simp [wkT, okA, Vam.look, sig]
      rw [wrap64 (by omega) (by omega)]
    · simp [wkBs, setBx, nthB, wkBx, wkL, okA, wkP, cloE, sig, wkT, Vam.look, pickN]
  · rintro ⟨j, hj⟩
    have hj : j ≤ l.length := hj
    obtain ⟨k1, k2⟩ := pick_ok (ids := ids) (l := l.drop j) fun p hp => kl p (List.mem_of_mem_drop hp)
    have kle := pick_len (ids := ids) (l.drop j)
    rw [List.length_drop] at kle
    have hnx := fun h0 h => pick_drop (ids := ids) (l := l) (j := j) h0 h
    generalize hpt : pickN (l.drop j) ids = s at k1 k2 kle hnx
    obtain ⟨ap, st⟩ := s
    simp only at k1 k2 kle
    simp only [evX, reduceIte, reduceCtorEq, Nat.reduceLT, Nat.reduceAdd, Nat.reduceEqDiff, Nat.reduceBEq, Nat.reduceLeDiff, Nat.reduceMul, ttL, tyL, ht']
    ((first | refine SelF.byN (fun hb => ?_) (fun hb => ?_) | refine SelF.by (fun hb => ?_) (fun hb => ?_)) <;> simp only [hb, evX, reduceIte, reduceCtorEq, Nat.reduceLT, Nat.reduceAdd, Nat.reduceEqDiff, Nat.reduceBEq, Nat.reduceLeDiff, Nat.reduceMul, ttL, tyL, ht'])
    · simp only [decide_eq_true_eq] at hb
      have hj0 : 0 < j := by omega
      have hjm : j - 1 < l.length := by omega
      rw [show ((j : Int) - 1) = ((j - 1 : Nat) : Int) by omega]
      have hnx := hnx hj0 hjm
      have kp := kl _ (List.getElem_mem hjm)
      refine IdxR.nat hE' 9000 hjm rfl ?_
      simp only [evX, reduceIte, reduceCtorEq, Nat.reduceLT, Nat.reduceAdd, Nat.reduceEqDiff, Nat.reduceBEq, Nat.reduceLeDiff, Nat.reduceMul, ttL, tyL, ht']
      refine YldG.by hE' hP' ht' rfl rfl (by rw [hps]; rfl) (by rw [hps]; simp) fun E3 hE3 hP3 ht3 h03 => ?_
      refine Go.run hE3 9000 ?_
      simp only [htm, hps, has, hbd]
      simp only [evX, reduceIte, reduceCtorEq, Nat.reduceLT, Nat.reduceAdd, Nat.reduceEqDiff, Nat.reduceBEq, Nat.reduceLeDiff, Nat.reduceMul, ttL, tyL, ht3]
      refine StG.by hE3 ht3 9000 rfl ?_
      simp only [evX, reduceIte, reduceCtorEq, Nat.reduceLT, Nat.reduceAdd, Nat.reduceEqDiff, Nat.reduceBEq, Nat.reduceLeDiff, Nat.reduceMul, ttL, tyL, ht3]
      refine AsgQ.by hE3 9000 rfl rfl ?_
      simp only [evX, reduceIte, reduceCtorEq, Nat.reduceLT, Nat.reduceAdd, Nat.reduceEqDiff, Nat.reduceBEq, Nat.reduceLeDiff, Nat.reduceMul, ttL, tyL, ht3]
      refine CallG.ok hE3 9000 (hP3 ▸ ok_ContainsId ids l[j - 1].id (by omega)) rfl rfl ?_
      simp only [evX, reduceIte, reduceCtorEq, Nat.reduceLT, Nat.reduceAdd, Nat.reduceEqDiff, Nat.reduceBEq, Nat.reduceLeDiff, Nat.reduceMul, ttL, tyL, ht3]
      have hdef : (ids.any fun y => idEq y l[j - 1].id) = inIds ids l[j - 1] := rfl
      rw [hdef]
      refine CallI.inlD hE3 hP3 ht3 (fn := Tryz.f30) (by kernel_rfl) rfl rfl rfl _ _ rfl rfl _ rfl (Nat.le_of_ble_eq_true rfl) fun E4 hE4 hP4 ht4 h04 hrd4 => ?_
      refine Go.run hE4 9000 ?_
      simp only [Tryz.f30, evX, reduceIte, reduceCtorEq, Nat.reduceLT, Nat.reduceAdd, Nat.reduceEqDiff, Nat.reduceBEq, Nat.reduceLeDiff, Nat.reduceMul, ttL, tyL, ht4]
      refine StG.by hE4 ht4 9000 rfl ?_
      simp only [evX, reduceIte, reduceCtorEq, Nat.reduceLT, Nat.reduceAdd, Nat.reduceEqDiff, Nat.reduceBEq, Nat.reduceLeDiff, Nat.reduceMul, ttL, tyL, ht4]
      refine Go.nilT 6 37 5 rfl ?_
      have h04 : E4.n0 = 7 := by rw [h04]; rfl
      refine Loop.by hE4 (ι := {s : Nat × List Named × Named // s.1 ≤ ap.length ∧ pastN l[j - 1] (ap.take s.1) = some (s.2.1, s.2.2)}) (fun s => ⟨65, [(0, .ptr 1 0), (2, boolA (inIds ids l[j - 1])), (4, .ptr 7 0), (6, .own 9), (7, .ptr 8 0), (8, boolA true), (16, .own 5), (17, intA ap.length), (18, intA (s.1.1 : Int))], [.cells [idsA ids], .cells [.own 4, .own 5], .cells [.clo 30 [.ptr 1 0] []], .lp 34 tm' ps' as' bd' .busy none, .rows 37 5 (namedsC st), .rows 37 5 (namedsC ap), .cells ((namedC l[j - 1]).map .c), .cells ((namedC l[j - 1]).map .c), .cells ((namedC s.1.2.2).map .c), .rows 37 5 (namedsC s.1.2.1)], [], []⟩) (fun s => ap.length - s.1.1) ⟨(0, [], l[j - 1]), by omega, by simp [pastN]⟩ 9000 ⟨[0, 1, 2, 3, 4, 5, 6, 7, 8, 9], ?_⟩ (by simp [h04]) ?_
      · subst htm; subst hps; subst has; subst hbd
        refine Wk.of rfl (by simp) (by rw [h04]; simp [fixB]) ?_ ?_ (by simp) (by simp)
        · simp [wkT, okA, Vam.look, sig]
        · simp [wkBs, setBx, nthB, wkBx, wkL, okA, wkP, cloE, sig, wkT, Vam.look]
      · rintro ⟨⟨i, m, q⟩, hi, hone⟩
        simp only at hi hone
        have kq := pastN_keep okN_pass hone (fun x hx => k1 x (List.mem_of_mem_take hx)) kp
        simp only [evX, reduceIte, reduceCtorEq, Nat.reduceLT, Nat.reduceAdd, Nat.reduceEqDiff, Nat.reduceBEq, Nat.reduceLeDiff, Nat.reduceMul, ttL, tyL, ht4]
        ((first | refine SelF.byN (fun hb => ?_) (fun hb => ?_) | refine SelF.by (fun hb => ?_) (fun hb => ?_)) <;> simp only [hb, evX, reduceIte, reduceCtorEq, Nat.reduceLT, Nat.reduceAdd, Nat.reduceEqDiff, Nat.reduceBEq, Nat.reduceLeDiff, Nat.reduceMul, ttL, tyL, ht4])
        · simp only [decide_eq_true_eq] at hb
          have hlt : i < ap.length := by omega
          have hrow : (namedsC ap)[i]? = some (namedC ap[i]) := by rw [List.getElem?_map, List.getElem?_eq_getElem hlt]; rfl
          have kx := k1 _ (List.getElem_mem hlt)
          refine IdxO.by hE4 9000 (by omega) (by simp; omega) ?_
          try simp only [Int.toNat_natCast, Nat.sub_self]
          simp only [evX, reduceIte, reduceCtorEq, Nat.reduceLT, Nat.reduceAdd, Nat.reduceEqDiff, Nat.reduceBEq, Nat.reduceLeDiff, Nat.reduceMul, ttL, tyL, ht4]
          refine LdO.by hE4 (j := i) (row := namedC ap[i]) 9000 hrow (by simp) (by simp) ?_
          try simp only [Int.toNat_natCast, Nat.sub_self]
          simp only [evX, reduceIte, reduceCtorEq, Nat.reduceLT, Nat.reduceAdd, Nat.reduceEqDiff, Nat.reduceBEq, Nat.reduceLeDiff, Nat.reduceMul, ttL, tyL, ht4]
          refine StG.by hE4 ht4 9000 rfl ?_
          simp only [evX, reduceIte, reduceCtorEq, Nat.reduceLT, Nat.reduceAdd, Nat.reduceEqDiff, Nat.reduceBEq, Nat.reduceLeDiff, Nat.reduceMul, ttL, tyL, ht4]
          refine CallG.ok hE4 9000 (hP4 ▸ ok_tradePass q ap[i] kq.1 kx) rfl rfl ?_
          simp only [evX, reduceIte, reduceCtorEq, Nat.reduceLT, Nat.reduceAdd, Nat.reduceEqDiff, Nat.reduceBEq, Nat.reduceLeDiff, Nat.reduceMul, ttL, tyL, ht4]
          refine StG.by hE4 ht4 9000 rfl ?_
          simp only [evX, reduceIte, reduceCtorEq, Nat.reduceLT, Nat.reduceAdd, Nat.reduceEqDiff, Nat.reduceBEq, Nat.reduceLeDiff, Nat.reduceMul, ttL, tyL, ht4]
          refine StG.by hE4 ht4 9000 rfl ?_
          simp only [evX, reduceIte, reduceCtorEq, Nat.reduceLT, Nat.reduceAdd, Nat.reduceEqDiff, Nat.reduceBEq, Nat.reduceLeDiff, Nat.reduceMul, ttL, tyL, ht4]
          cases hs : passN q ap[i] with
          | none =>
            have e' : passNT q ap[i] = (namedZ, namedZ, false) := by rw [passNT, hs]
            have e : pastN l[j - 1] ap = none := pastN_fail hlt hone hs
            cases hin : inIds ids l[j - 1] <;> simp only [e', evX, reduceIte, reduceCtorEq, Nat.reduceLT, Nat.reduceAdd, Nat.reduceEqDiff, Nat.reduceBEq, Nat.reduceLeDiff, Nat.reduceMul, ttL, tyL, ht4, Bool.not_false, Bool.not_true]
            · have hst : pickN (l.drop (j - 1)) ids = (l[j - 1] :: ap, st) := by rw [hnx, pickS]; simp [hin, e]
              refine CallG.ins hE4 hP4 (i := 0) 9000 insOkNamed rfl rfl rfl rfl rfl (by decide) (Nat.zero_le _) (by simp; omega) ?_
              simp only [evX, reduceIte, reduceCtorEq, Nat.reduceLT, Nat.reduceAdd, Nat.reduceEqDiff, Nat.reduceBEq, Nat.reduceLeDiff, Nat.reduceMul, ttL, tyL, ht4]
              refine StG.byD hE4 ht4 9000 rfl (by kernel_rfl) ?_
              simp only [evX, reduceIte, reduceCtorEq, Nat.reduceLT, Nat.reduceAdd, Nat.reduceEqDiff, Nat.reduceBEq, Nat.reduceLeDiff, Nat.reduceMul, ttL, tyL, ht4]
              refine InlQ.by hE3 9000 (.inr rfl) rfl ?_
              simp only [evX, reduceIte, reduceCtorEq, Nat.reduceLT, Nat.reduceAdd, Nat.reduceEqDiff, Nat.reduceBEq, Nat.reduceLeDiff, Nat.reduceMul, ttL, tyL, ht3]
              subst htm; subst hps; subst has; subst hbd
              refine YldQ.normal hE' 9000 rfl rfl ?_
              simp only [evX, reduceIte, reduceCtorEq, Nat.reduceLT, Nat.reduceAdd, Nat.reduceEqDiff, Nat.reduceBEq, Nat.reduceLeDiff, Nat.reduceMul, ttL, tyL, ht']
              refine ⟨⟨j - 1, by omega⟩, [0, 1, 2, 3, 4, 13], Wk.of rfl (by simp) (by rw [h0']; simp [fixB]) ?_ ?_ (by simp) (by simp), by simp only; omega⟩
              · simp [wkT, okA, Vam.look, sig]
                rw [wrap64 (by omega) (by omega)]
              · simp [wkBs, setBx, nthB, wkBx, wkL, okA, wkP, cloE, sig, wkT, Vam.look, hst]
            · have hst : pickN (l.drop (j - 1)) ids = (l[j - 1] :: ap, st) := by rw [hnx, pickS]; simp [hin, e]
              refine CallG.ins hE4 hP4 (i := 0) 9000 insOkNamed rfl rfl rfl rfl rfl (by decide) (Nat.zero_le _) (by simp; omega) ?_
              simp only [evX, reduceIte, reduceCtorEq, Nat.reduceLT, Nat.reduceAdd, Nat.reduceEqDiff, Nat.reduceBEq, Nat.reduceLeDiff, Nat.reduceMul, ttL, tyL, ht4]
              refine StG.byD hE4 ht4 9000 rfl (by kernel_rfl) ?_
              simp only [evX, reduceIte, reduceCtorEq, Nat.reduceLT, Nat.reduceAdd, Nat.reduceEqDiff, Nat.reduceBEq, Nat.reduceLeDiff, Nat.reduceMul, ttL, tyL, ht4]
              refine InlQ.by hE3 9000 (.inr rfl) rfl ?_
              simp only [evX, reduceIte, reduceCtorEq, Nat.reduceLT, Nat.reduceAdd, Nat.reduceEqDiff, Nat.reduceBEq, Nat.reduceLeDiff, Nat.reduceMul, ttL, tyL, ht3]
              subst htm; subst hps; subst has; subst hbd
              refine YldQ.normal hE' 9000 rfl rfl ?_
              simp only [evX, reduceIte, reduceCtorEq, Nat.reduceLT, Nat.reduceAdd, Nat.reduceEqDiff, Nat.reduceBEq, Nat.reduceLeDiff, Nat.reduceMul, ttL, tyL, ht']
              refine ⟨⟨j - 1, by omega⟩, [0, 1, 2, 3, 4, 13], Wk.of rfl (by simp) (by rw [h0']; simp [fixB]) ?_ ?_ (by simp) (by simp), by simp only; omega⟩
              · simp [wkT, okA, Vam.look, sig]
                rw [wrap64 (by omega) (by omega)]
              · simp [wkBs, setBx, nthB, wkBx, wkL, okA, wkP, cloE, sig, wkT, Vam.look, hst]
          | some r =>
            have e' : passNT q ap[i] = (r.1, r.2, true) := by rw [passNT, hs]
            simp only [e', evX, reduceIte, reduceCtorEq, Nat.reduceLT, Nat.reduceAdd, Nat.reduceEqDiff, Nat.reduceBEq, Nat.reduceLeDiff, Nat.reduceMul, ttL, tyL, ht4, Bool.not_true]
            refine AppG.by hE4 9000 rfl rfl (by simp [rowLen]) (by have := (pastN_like hone).2.1; simp at this ⊢; omega) ?_
            simp only [evX, reduceIte, reduceCtorEq, Nat.reduceLT, Nat.reduceAdd, Nat.reduceEqDiff, Nat.reduceBEq, Nat.reduceLeDiff, Nat.reduceMul, ttL, tyL, ht4]
            subst htm; subst hps; subst has; subst hbd
            refine ⟨⟨(i + 1, m ++ [r.1], r.2), by simp only; omega, pastN_step hlt hone hs⟩, [0, 1, 2, 3, 4, 5, 6, 7, 8, 13], Wk.of rfl (by simp) (by rw [h04]; simp [fixB]) ?_ ?_ (by simp) (by simp), by simp only; omega⟩
            · simp [wkT, okA, Vam.look, sig]
              rw [wrap64 (by omega) (by omega)]
            · simp [wkBs, setBx, nthB, wkBx, wkL, okA, wkP, cloE, sig, wkT, Vam.look]
        · have hi' : i = ap.length := by simp at hb; omega
          subst hi'
          rw [List.take_length] at hone
          cases hin : inIds ids l[j - 1] <;> simp only [evX, reduceIte, reduceCtorEq, Nat.reduceLT, Nat.reduceAdd, Nat.reduceEqDiff, Nat.reduceBEq, Nat.reduceLeDiff, Nat.reduceMul, ttL, tyL, ht4, Bool.not_false, Bool.not_true]
          · have hst : pickN (l.drop (j - 1)) ids = (m, q :: st) := by rw [hnx, pickS]; simp [hin, hone]
            refine CallG.ins hE4 hP4 (i := 0) 9000 insOkNamed rfl rfl rfl rfl rfl (by decide) (Nat.zero_le _) (by simp; omega) ?_
            simp only [evX, reduceIte, reduceCtorEq, Nat.reduceLT, Nat.reduceAdd, Nat.reduceEqDiff, Nat.reduceBEq, Nat.reduceLeDiff, Nat.reduceMul, ttL, tyL, ht4]
            refine StG.byXW hE4 ht4 9000 rfl rfl rfl rfl rfl rfl rfl rfl rfl ?_
            simp only [evX, reduceIte, reduceCtorEq, Nat.reduceLT, Nat.reduceAdd, Nat.reduceEqDiff, Nat.reduceBEq, Nat.reduceLeDiff, Nat.reduceMul, ttL, tyL, ht4]
            refine StG.byD hE4 ht4 9000 rfl (by kernel_rfl) ?_
            simp only [evX, reduceIte, reduceCtorEq, Nat.reduceLT, Nat.reduceAdd, Nat.reduceEqDiff, Nat.reduceBEq, Nat.reduceLeDiff, Nat.reduceMul, ttL, tyL, ht4]
            refine InlQ.by hE3 9000 (.inl rfl) rfl ?_
            simp only [evX, reduceIte, reduceCtorEq, Nat.reduceLT, Nat.reduceAdd, Nat.reduceEqDiff, Nat.reduceBEq, Nat.reduceLeDiff, Nat.reduceMul, ttL, tyL, ht3]
            subst htm; subst hps; subst has; subst hbd
            refine YldQ.normal hE' 9000 rfl rfl ?_
            simp only [evX, reduceIte, reduceCtorEq, Nat.reduceLT, Nat.reduceAdd, Nat.reduceEqDiff, Nat.reduceBEq, Nat.reduceLeDiff, Nat.reduceMul, ttL, tyL, ht']
            refine ⟨⟨j - 1, by omega⟩, [0, 1, 2, 3, 11, 9], Wk.of rfl (by simp) (by rw [h0']; simp [fixB]) ?_ ?_ (by simp) (by simp), by simp only; omega⟩
            · simp [wkT, okA, Vam.look, sig]
              rw [wrap64 (by omega) (by omega)]
            · simp [wkBs, setBx, nthB, wkBx, wkL, okA, wkP, cloE, sig, wkT, Vam.look, hst]
          · have hst : pickN (l.drop (j - 1)) ids = (l[j - 1] :: ap, st) := by rw [hnx, pickS]; simp [hin]
            refine CallG.ins hE4 hP4 (i := 0) 9000 insOkNamed rfl rfl rfl rfl rfl (by decide) (Nat.zero_le _) (by simp; omega) ?_
            simp only [evX, reduceIte, reduceCtorEq, Nat.reduceLT, Nat.reduceAdd, Nat.reduceEqDiff, Nat.reduceBEq, Nat.reduceLeDiff, Nat.reduceMul, ttL, tyL, ht4]
            refine StG.byD hE4 ht4 9000 rfl (by kernel_rfl) ?_
            simp only [evX, reduceIte, reduceCtorEq, Nat.reduceLT, Nat.reduceAdd, Nat.reduceEqDiff, Nat.reduceBEq, Nat.reduceLeDiff, Nat.reduceMul, ttL, tyL, ht4]
            refine InlQ.by hE3 9000 (.inr rfl) rfl ?_
            simp only [evX, reduceIte, reduceCtorEq, Nat.reduceLT, Nat.reduceAdd, Nat.reduceEqDiff, Nat.reduceBEq, Nat.reduceLeDiff, Nat.reduceMul, ttL, tyL, ht3]
            subst htm; subst hps; subst has; subst hbd
            refine YldQ.normal hE' 9000 rfl rfl ?_
            simp only [evX, reduceIte, reduceCtorEq, Nat.reduceLT, Nat.reduceAdd, Nat.reduceEqDiff, Nat.reduceBEq, Nat.reduceLeDiff, Nat.reduceMul, ttL, tyL, ht']
            refine ⟨⟨j - 1, by omega⟩, [0, 1, 2, 3, 4, 11], Wk.of rfl (by simp) (by rw [h0']; simp [fixB]) ?_ ?_ (by simp) (by simp), by simp only; omega⟩
            · simp [wkT, okA, Vam.look, sig]
              rw [wrap64 (by omega) (by omega)]
            · simp [wkBs, setBx, nthB, wkBx, wkL, okA, wkP, cloE, sig, wkT, Vam.look, hst]
    · have hj0 : j = 0 := by simp at hb; omega
      subst hj0
      refine RngQ.by hE 9000 (.inl rfl) rfl rfl (by simp) rfl ?_
      simp only [htm]
      simp only [evX, reduceIte, reduceCtorEq, Nat.reduceLT, Nat.reduceAdd, Nat.reduceEqDiff, Nat.reduceBEq, Nat.reduceLeDiff, Nat.reduceMul, ttL, tyL, ht]
      refine ⟨by kernel_rfl, ?_⟩
      rw [List.drop_zero] at hpt
      rw [hpt]
      exact RetQ.two (.inr rfl) rfl rfl rfl rfl
end Go.Proofs.YthfogkmhgepgaaaGreat.Px

/- What stays, what is put behind, what is picked: the document's way. -/
namespace Go.Proofs.YthfogkmhgepgaaaGreat
open Go.Vam Go.Qm
set_option linter.unusedVariables false
set_option linter.unusedSimpArgs false
set_option maxRecDepth 8000
set_option maxHeartbeats 4000000

theorem ok_ref15OverO (l : List Named) (q : Named) (bl : l.length * 80 ≤ 140737488355328) (kl : ∀ p ∈ l, okN p) (kq : okN q) : Ok Tryz.prog 28 [namedsA l, namedA q] 
    (match overN l q with
     | some r => .mix [namedA r.1] 37 5 (namedsC r.2) [boolA true]
     | none => .mix [namedA namedZ] 37 5 [] [boolA false]) := by
  (refine Ok.code hT hM (fn := Tryz.f28) rfl rfl rfl _ _ rfl rfl (Nat.le_of_ble_eq_true rfl) fun E hE hP ht h0 hrd => ?_; refine Go.run hE 9000 ?_; simp only [Tryz.f28, evX, reduceIte, reduceCtorEq, Nat.reduceLT, Nat.reduceAdd, Nat.reduceEqDiff, Nat.reduceBEq, Nat.reduceLeDiff, Nat.reduceMul, ttL, tyL, ht])
  refine AppG.by hE 9000 rfl rfl (by simp [rowLen]) (by simp; omega) ?_
  simp only [evX, reduceIte, reduceCtorEq, Nat.reduceLT, Nat.reduceAdd, Nat.reduceEqDiff, Nat.reduceBEq, Nat.reduceLeDiff, Nat.reduceMul, ttL, tyL, ht]
  refine Loop.by hE (ι := {s : Nat × Named × List Named // s.1 ≤ l.length ∧ overN (l.drop s.1) q = some (s.2.1, s.2.2)}) (fun s => ⟨41, [(3, .ptr 0 0), (4, .ptr 1 0), (7, .own 2), (8, intA ((s.1.1 : Int) - 1))], [.cells ((namedC s.1.2.1).map .c), .cells [.c (.sc (.int .i64 0)), .c (.sc (.int .i64 0)), .nil, .c (.sc (.string ⟨#[]⟩)), .nil], .rows 37 5 (namedsC (l.take s.1.1 ++ s.1.2.2))], [], []⟩) (fun s => s.1.1) ⟨(l.length, q, []), Nat.le_refl _, by simp [overN]⟩ 9000 ⟨[0, 1, 2], ?_⟩ (by simp [h0]) ?_
  · refine Wk.of rfl (by simp) (by rw [h0]; simp [fixB]) ?_ ?_ (by simp) (by simp)
    · simp [wkT, okA, Vam.look, sig]
      rw [wrap64 (by omega) (by omega)]
    · simp [wkBs, setBx, nthB, wkBx, wkL, okA, sig, wkT, Vam.look, List.take_length]
  · rintro ⟨⟨j, x, l'⟩, hj, hone⟩
    simp only at hj hone
    simp only [evX, reduceIte, reduceCtorEq, Nat.reduceLT, Nat.reduceAdd, Nat.reduceEqDiff, Nat.reduceBEq, Nat.reduceLeDiff, Nat.reduceMul, ttL, tyL, ht]
    ((first | refine SelF.byN (fun hb => ?_) (fun hb => ?_) | refine SelF.by (fun hb => ?_) (fun hb => ?_)) <;> simp only [hb, evX, reduceIte, reduceCtorEq, Nat.reduceLT, Nat.reduceAdd, Nat.reduceEqDiff, Nat.reduceBEq, Nat.reduceLeDiff, Nat.reduceMul, ttL, tyL, ht])
    · simp only [decide_eq_true_eq] at hb
      have hj0 : 0 < j := by omega
      have hjm : j - 1 < l.length := by omega
      rw [show ((j : Int) - 1) = ((j - 1 : Nat) : Int) by omega]
      have hrow : (namedsC (l.take j ++ l'))[j - 1]? = some (namedC l[j - 1]) := by
        rw [List.getElem?_map, List.getElem?_append_left (by simp; omega), List.getElem?_take_of_lt (by omega), List.getElem?_eq_getElem hjm]
        rfl
      have hlen : j - 1 < (namedsC (l.take j ++ l')).length := by simp; omega
      obtain ⟨kx, kl'⟩ := overN_keep okN_pass hone (fun p hp => kl p (List.mem_of_mem_drop hp)) kq
      have kp := kl _ (List.getElem_mem hjm)
      refine IdxO.by hE 9000 (by omega) (by omega) ?_
      simp only [evX, reduceIte, reduceCtorEq, Nat.reduceLT, Nat.reduceAdd, Nat.reduceEqDiff, Nat.reduceBEq, Nat.reduceLeDiff, Nat.reduceMul, ttL, tyL, ht]
      refine LdO.by hE (j := j - 1) (row := namedC l[j - 1]) 9000 hrow (by simp) (by simp) ?_
      try simp only [Int.toNat_natCast, Nat.sub_self]
      simp only [evX, reduceIte, reduceCtorEq, Nat.reduceLT, Nat.reduceAdd, Nat.reduceEqDiff, Nat.reduceBEq, Nat.reduceLeDiff, Nat.reduceMul, ttL, tyL, ht]
      (refine CallG.ok hE 9000 (hP ▸ ok_ref15Pass l[j - 1] x kp kx) rfl rfl ?_ <;> simp only [evX, reduceIte, reduceCtorEq, Nat.reduceLT, Nat.reduceAdd, Nat.reduceEqDiff, Nat.reduceBEq, Nat.reduceLeDiff, Nat.reduceMul, ttL, tyL, ht])
      refine StG.byX hE ht 9000 rfl rfl ?_
      simp only [evX, reduceIte, reduceCtorEq, Nat.reduceLT, Nat.reduceAdd, Nat.reduceEqDiff, Nat.reduceBEq, Nat.reduceLeDiff, Nat.reduceMul, ttL, tyL, ht]
      refine StG.byX hE ht 9000 rfl rfl ?_
      simp only [evX, reduceIte, reduceCtorEq, Nat.reduceLT, Nat.reduceAdd, Nat.reduceEqDiff, Nat.reduceBEq, Nat.reduceLeDiff, Nat.reduceMul, ttL, tyL, ht]
      refine ⟨by kernel_rfl, ?_⟩
      cases hs : (passNT l[j - 1] x).2.2
      · simp only [evX, reduceIte, reduceCtorEq, Nat.reduceLT, Nat.reduceAdd, Nat.reduceEqDiff, Nat.reduceBEq, Nat.reduceLeDiff, Nat.reduceMul, ttL, tyL, ht, Bool.not_false]
        have hpn : passN l[j - 1] x = none := by
          cases h : passN l[j - 1] x with
          | none => rfl
          | some r => rw [passNT, h] at hs; simp at hs
        have e : overN l q = none := overN_fail hjm (by rw [show j - 1 + 1 = j by omega]; exact hone) hpn
        rw [e]
        (refine StG.by hE ht 9000 rfl ?_ <;> simp only [evX, reduceIte, reduceCtorEq, Nat.reduceLT, Nat.reduceAdd, Nat.reduceEqDiff, Nat.reduceBEq, Nat.reduceLeDiff, Nat.reduceMul, ttL, tyL, ht])
        exact RetQ.mix3n (.inr rfl) (cellV rfl rfl rfl rfl rfl rfl rfl rfl rfl) (tmpV rfl) (tmpV rfl) rfl rfl rfl
      · simp only [evX, reduceIte, reduceCtorEq, Nat.reduceLT, Nat.reduceAdd, Nat.reduceEqDiff, Nat.reduceBEq, Nat.reduceLeDiff, Nat.reduceMul, ttL, tyL, ht, Bool.not_true]
        (refine StG.by hE ht 9000 rfl ?_ <;> simp only [evX, reduceIte, reduceCtorEq, Nat.reduceLT, Nat.reduceAdd, Nat.reduceEqDiff, Nat.reduceBEq, Nat.reduceLeDiff, Nat.reduceMul, ttL, tyL, ht])
        refine IdxO.by hE 9000 (by omega) (by omega) ?_
        simp only [evX, reduceIte, reduceCtorEq, Nat.reduceLT, Nat.reduceAdd, Nat.reduceEqDiff, Nat.reduceBEq, Nat.reduceLeDiff, Nat.reduceMul, ttL, tyL, ht]
        refine StG.byO hE ht (j := j - 1) (row := namedC l[j - 1]) 9000 rfl rfl rfl rfl rfl hrow rfl (by simp) (by simp [tyL]) ?_
        simp only [evX, reduceIte, reduceCtorEq, Nat.reduceLT, Nat.reduceAdd, Nat.reduceEqDiff, Nat.reduceBEq, Nat.reduceLeDiff, Nat.reduceMul, ttL, tyL, ht]
        have hpp := passNT_some hs
        rw [set_at hj0 hjm]
        refine ⟨⟨(j - 1, (passNT l[j - 1] x).1, (passNT l[j - 1] x).2.1 :: l'), by simp only; omega, overN_step hjm (by rw [show j - 1 + 1 = j by omega]; exact hone) hpp⟩, [0, 1, 2], Wk.of rfl (by simp) (by rw [h0]; simp [fixB]) ?_ ?_ (by simp) (by simp), by simp only; omega⟩
        · simp [wkT, okA, Vam.look, sig]
          rw [wrap64 (by omega) (by omega)]
        · simp [wkBs, nthB, wkBx, wkL, okA, sig, wkT, Vam.look]
    · have hj0 : j = 0 := by simp at hb; omega
      subst hj0
      have e : overN l q = some (x, l') := by simpa using hone
      rw [e]
      (refine StG.by hE ht 9000 rfl ?_ <;> simp only [evX, reduceIte, reduceCtorEq, Nat.reduceLT, Nat.reduceAdd, Nat.reduceEqDiff, Nat.reduceBEq, Nat.reduceLeDiff, Nat.reduceMul, ttL, tyL, ht])
      exact RetQ.mix3 (.inr rfl) (cellV rfl rfl rfl rfl rfl rfl rfl rfl rfl) (tmpV rfl) (tmpV rfl) rfl rfl rfl rfl rfl rfl
theorem ok_under (p : Named) (l : List Named) (bl : l.length * 80 ≤ 140737488355328) (kl : ∀ x ∈ l, okN x) (kp : okN p) : Ok Tryz.prog 32 [namedA p, namedsA l]
    (match pastN p l with
     | some r => .mix [] 37 5 (namedsC r.1) [namedA r.2, boolA true]
     | none => .mix [] 37 5 [] [namedA namedZ, boolA false]) := by
  (refine Ok.code hT hM (fn := Tryz.f32) rfl rfl rfl _ _ rfl rfl (Nat.le_of_ble_eq_true rfl) fun E hE hP ht h0 hrd => ?_; refine Go.run hE 9000 ?_; simp only [Tryz.f32, evX, reduceIte, reduceCtorEq, Nat.reduceLT, Nat.reduceAdd, Nat.reduceEqDiff, Nat.reduceBEq, Nat.reduceLeDiff, Nat.reduceMul, ttL, tyL, ht])
  refine Go.nilT 7 37 5 rfl ?_
  refine Loop.by hE (ι := {s : Nat × List Named × Named // s.1 ≤ l.length ∧ pastN p (l.take s.1) = some (s.2.1, s.2.2)}) (fun s => ⟨38, [(1, namedsA l), (2, .ptr 0 0), (4, .nil), (5, .ptr 1 0), (7, .own 2), (8, intA (s.1.1 : Int))], [.cells ((namedC s.1.2.2).map .c), .cells [.c (.sc (.int .i64 0)), .c (.sc (.int .i64 0)), .nil, .c (.sc (.string ⟨#[]⟩)), .nil], .rows 37 5 (namedsC s.1.2.1)], [], []⟩) (fun s => l.length - s.1.1) ⟨(0, [], p), by omega, by simp [pastN]⟩ 9000 ⟨[0, 1, 2], ?_⟩ (by simp [h0]) ?_
  · refine Wk.of rfl (by simp) (by rw [h0]; simp [fixB]) ?_ ?_ (by simp) (by simp)
    · simp [wkT, okA, Vam.look, sig]
    · simp [wkBs, setBx, nthB, wkBx, wkL, okA, sig, wkT, Vam.look]
  · rintro ⟨⟨i, m, q⟩, hi, hone⟩
    simp only at hi hone
    have kq := Px.pastN_keep okN_pass hone (fun x hx => kl x (List.mem_of_mem_take hx)) kp
    have hml := (pastN_like hone).2.1
    simp only [evX, reduceIte, reduceCtorEq, Nat.reduceLT, Nat.reduceAdd, Nat.reduceEqDiff, Nat.reduceBEq, Nat.reduceLeDiff, Nat.reduceMul, ttL, tyL, ht]
    ((first | refine SelF.byN (fun hb => ?_) (fun hb => ?_) | refine SelF.by (fun hb => ?_) (fun hb => ?_)) <;> simp only [hb, evX, reduceIte, reduceCtorEq, Nat.reduceLT, Nat.reduceAdd, Nat.reduceEqDiff, Nat.reduceBEq, Nat.reduceLeDiff, Nat.reduceMul, ttL, tyL, ht])
    · simp only [decide_eq_true_eq] at hb
      have hlt : i < l.length := by omega
      have kx := kl _ (List.getElem_mem hlt)
      simp only [List.length_take] at hml
      refine IdxR.nat hE 9000 hlt rfl ?_
      simp only [evX, reduceIte, reduceCtorEq, Nat.reduceLT, Nat.reduceAdd, Nat.reduceEqDiff, Nat.reduceBEq, Nat.reduceLeDiff, Nat.reduceMul, ttL, tyL, ht]
      (refine CallG.ok hE 9000 (hP ▸ ok_ref15Pass q l[i] kq.1 kx) rfl rfl ?_ <;> simp only [evX, reduceIte, reduceCtorEq, Nat.reduceLT, Nat.reduceAdd, Nat.reduceEqDiff, Nat.reduceBEq, Nat.reduceLeDiff, Nat.reduceMul, ttL, tyL, ht])
      (refine StG.byX hE ht 9000 rfl rfl ?_ <;> simp only [evX, reduceIte, reduceCtorEq, Nat.reduceLT, Nat.reduceAdd, Nat.reduceEqDiff, Nat.reduceBEq, Nat.reduceLeDiff, Nat.reduceMul, ttL, tyL, ht])
      (refine StG.byX hE ht 9000 rfl rfl ?_ <;> simp only [evX, reduceIte, reduceCtorEq, Nat.reduceLT, Nat.reduceAdd, Nat.reduceEqDiff, Nat.reduceBEq, Nat.reduceLeDiff, Nat.reduceMul, ttL, tyL, ht])
      refine ⟨by kernel_rfl, ?_⟩
      cases hs : passN q l[i] with
      | none =>
        have e' : passNT q l[i] = (namedZ, namedZ, false) := by rw [passNT, hs]
        have e : pastN p l = none := Px.pastN_fail hlt hone hs
        simp only [e', evX, reduceIte, reduceCtorEq, Nat.reduceLT, Nat.reduceAdd, Nat.reduceEqDiff, Nat.reduceBEq, Nat.reduceLeDiff, Nat.reduceMul, ttL, tyL, ht, Bool.not_false]
        (refine StG.by hE ht 9000 rfl ?_ <;> simp only [evX, reduceIte, reduceCtorEq, Nat.reduceLT, Nat.reduceAdd, Nat.reduceEqDiff, Nat.reduceBEq, Nat.reduceLeDiff, Nat.reduceMul, ttL, tyL, ht])
        rw [e]
        exact RetQ.mix12n (.inr rfl) (tmpV rfl) (cellV rfl rfl rfl rfl rfl rfl rfl rfl rfl) (tmpV rfl) rfl rfl rfl
      | some r =>
        have e' : passNT q l[i] = (r.1, r.2, true) := by rw [passNT, hs]
        simp only [e', evX, reduceIte, reduceCtorEq, Nat.reduceLT, Nat.reduceAdd, Nat.reduceEqDiff, Nat.reduceBEq, Nat.reduceLeDiff, Nat.reduceMul, ttL, tyL, ht, Bool.not_true]
        refine AppG.by hE 9000 rfl rfl (by simp [rowLen]) (by simp; omega) ?_
        simp only [evX, reduceIte, reduceCtorEq, Nat.reduceLT, Nat.reduceAdd, Nat.reduceEqDiff, Nat.reduceBEq, Nat.reduceLeDiff, Nat.reduceMul, ttL, tyL, ht]
        (refine StG.by hE ht 9000 rfl ?_ <;> simp only [evX, reduceIte, reduceCtorEq, Nat.reduceLT, Nat.reduceAdd, Nat.reduceEqDiff, Nat.reduceBEq, Nat.reduceLeDiff, Nat.reduceMul, ttL, tyL, ht])
        refine ⟨⟨(i + 1, m ++ [r.1], r.2), by simp only; omega, Px.pastN_step hlt hone hs⟩, [0, 1, 6], Wk.of rfl (by simp) (by rw [h0]; simp [fixB]) ?_ ?_ (by simp) (by simp), by simp only; omega⟩
        · simp [wkT, okA, Vam.look, sig]
          rw [wrap64 (by omega) (by omega)]
        · simp [wkBs, nthB, wkBx, wkL, okA, sig, wkT, Vam.look]
    · have hi' : i = l.length := by simp at hb; omega
      subst hi'
      rw [List.take_length] at hone
      (refine StG.byX hE ht 9000 rfl rfl ?_ <;> simp only [evX, reduceIte, reduceCtorEq, Nat.reduceLT, Nat.reduceAdd, Nat.reduceEqDiff, Nat.reduceBEq, Nat.reduceLeDiff, Nat.reduceMul, ttL, tyL, ht])
      refine ⟨by kernel_rfl, ?_⟩
      rw [hone]
      exact RetQ.mix12 (.inr rfl) (tmpV rfl) (cellV rfl rfl rfl rfl rfl rfl rfl rfl rfl) (tmpV rfl) rfl rfl rfl rfl rfl rfl
theorem ok_ref16Part (l : List Named) (ids : List Qm.Id) (bl : l.length * 80 ≤ 140737488355328) (kl : ∀ p ∈ l, okN p) (hi : ids.length < 9223372036854775807) : Ok Tryz.prog 11 [namedsA l, idsA ids] (.v (.tup [namedsA (partN l ids).1, namedsA (partN l ids).2])) := by
  (refine Ok.code hT hM (fn := Tryz.f11) rfl rfl rfl _ _ rfl rfl (Nat.le_of_ble_eq_true rfl) fun E hE hP ht h0 hrd => ?_; refine Go.run hE 9000 ?_; simp only [Tryz.f11, evX, reduceIte, reduceCtorEq, Nat.reduceLT, Nat.reduceAdd, Nat.reduceEqDiff, Nat.reduceBEq, Nat.reduceLeDiff, Nat.reduceMul, ttL, tyL, ht])
  refine Go.nilT 6 37 5 rfl ?_
  refine Go.nilT 7 37 5 rfl ?_
  refine Loop.by hE (ι := {i : Nat // i ≤ l.length}) (fun i => ⟨55, [(0, namedsA l), (1, idsA ids), (6, .own 0), (7, .own 1), (8, intA (i.1 : Int))], [.rows 37 5 (namedsC (partN (l.take i.1) ids).1), .rows 37 5 (namedsC (partN (l.take i.1) ids).2)], [], [1]⟩) (fun i => l.length - i.1) ⟨0, by simp⟩ 9000 ⟨[0, 1], Wk.of rfl (by simp) (by rw [h0]; simp [fixB]) (by simp [wkT, okA, wkP, cloE, Vam.look, sig, partN]) (by simp [wkBs, setBx, nthB, wkBx, wkL, okA, wkP, cloE, sig, partN]) (by simp) (by simp)⟩ (by simp [h0]) ?_
  rintro ⟨i, hi⟩
  have hi : i ≤ l.length := hi
  obtain ⟨k1, k2⟩ := part_ok (ids := ids) (l := l.take i) fun p hp => kl p (List.mem_of_mem_take hp)
  have kle := part_len (ids := ids) (l.take i)
  rw [List.length_take, Nat.min_eq_left hi] at kle
  have hnx := fun h => part_take (ids := ids) (l := l) (i := i) h
  generalize hpt : partN (l.take i) ids = s at k1 k2 kle hnx
  obtain ⟨st, be⟩ := s
  simp only at k1 k2 kle
  simp only [evX, reduceIte, reduceCtorEq, Nat.reduceLT, Nat.reduceAdd, Nat.reduceEqDiff, Nat.reduceBEq, Nat.reduceLeDiff, Nat.reduceMul, ttL, tyL, ht]
  ((first | refine SelF.byN (fun hb => ?_) (fun hb => ?_) | refine SelF.by (fun hb => ?_) (fun hb => ?_)) <;> simp only [hb, evX, reduceIte, reduceCtorEq, Nat.reduceLT, Nat.reduceAdd, Nat.reduceEqDiff, Nat.reduceBEq, Nat.reduceLeDiff, Nat.reduceMul, ttL, tyL, ht])
  · simp only [decide_eq_true_eq] at hb
    have hlt : i < l.length := by omega
    have hnx := hnx hlt
    have kp := kl _ (List.getElem_mem hlt)
    refine IdxR.nat hE 9000 hlt rfl ?_
    simp only [evX, reduceIte, reduceCtorEq, Nat.reduceLT, Nat.reduceAdd, Nat.reduceEqDiff, Nat.reduceBEq, Nat.reduceLeDiff, Nat.reduceMul, ttL, tyL, ht]
    (refine CallG.ok hE 9000 (hP ▸ ok_ref16In ids l[i].id (by omega)) rfl rfl ?_ <;> simp only [evX, reduceIte, reduceCtorEq, Nat.reduceLT, Nat.reduceAdd, Nat.reduceEqDiff, Nat.reduceBEq, Nat.reduceLeDiff, Nat.reduceMul, ttL, tyL, ht])
    refine IdxR.nat hE 9000 hlt rfl ?_
    simp only [evX, reduceIte, reduceCtorEq, Nat.reduceLT, Nat.reduceAdd, Nat.reduceEqDiff, Nat.reduceBEq, Nat.reduceLeDiff, Nat.reduceMul, ttL, tyL, ht]
    have hov := ok_ref15OverO be l[i] (by omega) k2 kp
    have hdef : (ids.any fun y => idEq y l[i].id) = inIds ids l[i] := rfl
    rw [hdef]
    cases ho : overN be l[i] with
    | none =>
      rw [ho] at hov
      have hst : partN (l.take (i + 1)) ids = (st, be ++ [l[i]]) := by rw [hnx, partS, ho]; simp
      (refine CallG.ok hE 9000 (hP ▸ hov) rfl rfl ?_ <;> simp only [evX, reduceIte, reduceCtorEq, Nat.reduceLT, Nat.reduceAdd, Nat.reduceEqDiff, Nat.reduceBEq, Nat.reduceLeDiff, Nat.reduceMul, ttL, tyL, ht])
      simp only [retE, evX, reduceIte, reduceCtorEq, Nat.reduceLT, Nat.reduceAdd, Nat.reduceEqDiff, Nat.reduceBEq, Nat.reduceLeDiff, Nat.reduceMul, ttL, tyL, ht]
      (refine StG.by hE ht 9000 rfl ?_ <;> simp only [evX, reduceIte, reduceCtorEq, Nat.reduceLT, Nat.reduceAdd, Nat.reduceEqDiff, Nat.reduceBEq, Nat.reduceLeDiff, Nat.reduceMul, ttL, tyL, ht])
      cases hin : inIds ids l[i] <;> simp only [evX, reduceIte, reduceCtorEq, Nat.reduceLT, Nat.reduceAdd, Nat.reduceEqDiff, Nat.reduceBEq, Nat.reduceLeDiff, Nat.reduceMul, ttL, tyL, ht, Bool.not_false, Bool.not_true]
      all_goals
        refine IdxR.nat hE 9000 hlt rfl ?_
        simp only [evX, reduceIte, reduceCtorEq, Nat.reduceLT, Nat.reduceAdd, Nat.reduceEqDiff, Nat.reduceBEq, Nat.reduceLeDiff, Nat.reduceMul, ttL, tyL, ht]
        refine AppG.by hE 9000 rfl rfl (by simp [rowLen]) (by simp; omega) ?_
        simp only [evX, reduceIte, reduceCtorEq, Nat.reduceLT, Nat.reduceAdd, Nat.reduceEqDiff, Nat.reduceBEq, Nat.reduceLeDiff, Nat.reduceMul, ttL, tyL, ht]
        refine ⟨⟨i + 1, by omega⟩, [0, 5], Wk.of rfl (by simp) (by rw [h0]; simp [fixB]) (by simp [wkT, okA, wkP, cloE, Vam.look, sig, wrapN i (by omega), hst]) (by simp [wkBs, setBx, nthB, wkBx, wkL, okA, wkP, cloE, sig, wrapN i (by omega), hst]) (by simp) (by simp), by simp only; omega⟩
    | some r =>
      obtain ⟨y, m⟩ := r
      rw [ho] at hov
      (refine CallG.ok hE 9000 (hP ▸ hov) rfl rfl ?_ <;> simp only [evX, reduceIte, reduceCtorEq, Nat.reduceLT, Nat.reduceAdd, Nat.reduceEqDiff, Nat.reduceBEq, Nat.reduceLeDiff, Nat.reduceMul, ttL, tyL, ht])
      simp only [retE, evX, reduceIte, reduceCtorEq, Nat.reduceLT, Nat.reduceAdd, Nat.reduceEqDiff, Nat.reduceBEq, Nat.reduceLeDiff, Nat.reduceMul, ttL, tyL, ht]
      (refine StG.by hE ht 9000 rfl ?_ <;> simp only [evX, reduceIte, reduceCtorEq, Nat.reduceLT, Nat.reduceAdd, Nat.reduceEqDiff, Nat.reduceBEq, Nat.reduceLeDiff, Nat.reduceMul, ttL, tyL, ht])
      cases hin : inIds ids l[i] <;> simp only [evX, reduceIte, reduceCtorEq, Nat.reduceLT, Nat.reduceAdd, Nat.reduceEqDiff, Nat.reduceBEq, Nat.reduceLeDiff, Nat.reduceMul, ttL, tyL, ht, Bool.not_false, Bool.not_true]
      · have hst : partN (l.take (i + 1)) ids = (st ++ [y], m) := by rw [hnx, partS, ho]; simp [hin]
        refine AppG.by hE 9000 rfl rfl (by simp [rowLen]) (by simp; omega) ?_
        simp only [evX, reduceIte, reduceCtorEq, Nat.reduceLT, Nat.reduceAdd, Nat.reduceEqDiff, Nat.reduceBEq, Nat.reduceLeDiff, Nat.reduceMul, ttL, tyL, ht]
        refine ⟨⟨i + 1, by omega⟩, [5, 2], Wk.of rfl (by simp) (by rw [h0]; simp [fixB]) (by simp [wkT, okA, wkP, cloE, Vam.look, sig, wrapN i (by omega), hst]) (by simp [wkBs, setBx, nthB, wkBx, wkL, okA, wkP, cloE, sig, wrapN i (by omega), hst]) (by simp) (by simp), by simp only; omega⟩
      · have hst : partN (l.take (i + 1)) ids = (st, be ++ [l[i]]) := by rw [hnx, partS, ho]; simp [hin]
        refine IdxR.nat hE 9000 hlt rfl ?_
        simp only [evX, reduceIte, reduceCtorEq, Nat.reduceLT, Nat.reduceAdd, Nat.reduceEqDiff, Nat.reduceBEq, Nat.reduceLeDiff, Nat.reduceMul, ttL, tyL, ht]
        refine AppG.by hE 9000 rfl rfl (by simp [rowLen]) (by simp; omega) ?_
        simp only [evX, reduceIte, reduceCtorEq, Nat.reduceLT, Nat.reduceAdd, Nat.reduceEqDiff, Nat.reduceBEq, Nat.reduceLeDiff, Nat.reduceMul, ttL, tyL, ht]
        refine ⟨⟨i + 1, by omega⟩, [0, 5], Wk.of rfl (by simp) (by rw [h0]; simp [fixB]) (by simp [wkT, okA, wkP, cloE, Vam.look, sig, wrapN i (by omega), hst]) (by simp [wkBs, setBx, nthB, wkBx, wkL, okA, wkP, cloE, sig, wrapN i (by omega), hst]) (by simp) (by simp), by simp only; omega⟩
  · have hi' : i = l.length := by simp at hb; omega
    subst hi'
    rw [List.take_length] at hpt
    rw [hpt]
    exact RetQ.two (.inr rfl) rfl rfl rfl rfl
theorem ok_ref16Pick (l : List Named) (ids : List Qm.Id) (bl : l.length * 80 ≤ 140737488355328) (kl : ∀ p ∈ l, okN p) (hi : ids.length < 9223372036854775807) : Ok Tryz.prog 14 [namedsA l, idsA ids] (.v (.tup [namedsA (pickN l ids).1, namedsA (pickN l ids).2])) := by
  (refine Ok.code hT hM (fn := Tryz.f14) rfl rfl rfl _ _ rfl rfl (Nat.le_of_ble_eq_true rfl) fun E hE hP ht h0 hrd => ?_; refine Go.run hE 9000 ?_; simp only [Tryz.f14, evX, reduceIte, reduceCtorEq, Nat.reduceLT, Nat.reduceAdd, Nat.reduceEqDiff, Nat.reduceBEq, Nat.reduceLeDiff, Nat.reduceMul, ttL, tyL, ht])
  refine Go.nilT 6 37 5 rfl ?_
  refine Go.nilT 7 37 5 rfl ?_
  refine Loop.by hE (ι := {j : Nat // j ≤ l.length}) (fun j => ⟨56, [(0, namedsA l), (1, idsA ids), (6, .own 0), (7, .own 1), (8, intA ((j.1 : Int) - 1))], [.rows 37 5 (namedsC (pickN (l.drop j.1) ids).1), .rows 37 5 (namedsC (pickN (l.drop j.1) ids).2)], [], [0]⟩) (fun j => j.1) ⟨l.length, Nat.le_refl _⟩ 9000 ⟨[0, 1], ?_⟩ (by simp [h0]) ?_
  · refine Wk.of rfl (by simp) (by rw [h0]; simp [fixB]) ?_ ?_ (by simp) (by simp)
    · simp [wkT, okA, Vam.look, sig]
      rw [wrap64 (by omega) (by omega)]
    · simp [wkBs, setBx, nthB, wkBx, wkL, okA, sig, wkT, Vam.look, pickN]
  rintro ⟨j, hj⟩
  have hj : j ≤ l.length := hj
  obtain ⟨k1, k2⟩ := Px.pick_ok (ids := ids) (l := l.drop j) fun p hp => kl p (List.mem_of_mem_drop hp)
  have kle := Px.pick_len (ids := ids) (l.drop j)
  rw [List.length_drop] at kle
  have hnx := fun h0 h => Px.pick_drop (ids := ids) (l := l) (j := j) h0 h
  generalize hpt : pickN (l.drop j) ids = s at k1 k2 kle hnx
  obtain ⟨ap, st⟩ := s
  simp only at k1 k2 kle
  simp only [evX, reduceIte, reduceCtorEq, Nat.reduceLT, Nat.reduceAdd, Nat.reduceEqDiff, Nat.reduceBEq, Nat.reduceLeDiff, Nat.reduceMul, ttL, tyL, ht]
  ((first | refine SelF.byN (fun hb => ?_) (fun hb => ?_) | refine SelF.by (fun hb => ?_) (fun hb => ?_)) <;> simp only [hb, evX, reduceIte, reduceCtorEq, Nat.reduceLT, Nat.reduceAdd, Nat.reduceEqDiff, Nat.reduceBEq, Nat.reduceLeDiff, Nat.reduceMul, ttL, tyL, ht])
  · simp only [decide_eq_true_eq] at hb
    have hj0 : 0 < j := by omega
    have hjm : j - 1 < l.length := by omega
    rw [show ((j : Int) - 1) = ((j - 1 : Nat) : Int) by omega]
    have hnx := hnx hj0 hjm
    have kp := kl _ (List.getElem_mem hjm)
    refine IdxR.nat hE 9000 hjm rfl ?_
    simp only [evX, reduceIte, reduceCtorEq, Nat.reduceLT, Nat.reduceAdd, Nat.reduceEqDiff, Nat.reduceBEq, Nat.reduceLeDiff, Nat.reduceMul, ttL, tyL, ht]
    (refine CallG.ok hE 9000 (hP ▸ ok_ref16In ids l[j - 1].id (by omega)) rfl rfl ?_ <;> simp only [evX, reduceIte, reduceCtorEq, Nat.reduceLT, Nat.reduceAdd, Nat.reduceEqDiff, Nat.reduceBEq, Nat.reduceLeDiff, Nat.reduceMul, ttL, tyL, ht])
    refine IdxR.nat hE 9000 hjm rfl ?_
    simp only [evX, reduceIte, reduceCtorEq, Nat.reduceLT, Nat.reduceAdd, Nat.reduceEqDiff, Nat.reduceBEq, Nat.reduceLeDiff, Nat.reduceMul, ttL, tyL, ht]
    have hov := ok_under l[j - 1] ap (by omega) k1 kp
    have hdef : (ids.any fun y => idEq y l[j - 1].id) = inIds ids l[j - 1] := rfl
    rw [hdef]
    cases ho : pastN l[j - 1] ap with
    | none =>
      rw [ho] at hov
      have hst : pickN (l.drop (j - 1)) ids = (l[j - 1] :: ap, st) := by rw [hnx, pickS, ho]; simp
      (refine CallG.ok hE 9000 (hP ▸ hov) rfl rfl ?_ <;> simp only [evX, reduceIte, reduceCtorEq, Nat.reduceLT, Nat.reduceAdd, Nat.reduceEqDiff, Nat.reduceBEq, Nat.reduceLeDiff, Nat.reduceMul, ttL, tyL, ht])
      simp only [retE, evX, reduceIte, reduceCtorEq, Nat.reduceLT, Nat.reduceAdd, Nat.reduceEqDiff, Nat.reduceBEq, Nat.reduceLeDiff, Nat.reduceMul, ttL, tyL, ht]
      (refine StG.by hE ht 9000 rfl ?_ <;> simp only [evX, reduceIte, reduceCtorEq, Nat.reduceLT, Nat.reduceAdd, Nat.reduceEqDiff, Nat.reduceBEq, Nat.reduceLeDiff, Nat.reduceMul, ttL, tyL, ht])
      cases hin : inIds ids l[j - 1] <;> simp only [evX, reduceIte, reduceCtorEq, Nat.reduceLT, Nat.reduceAdd, Nat.reduceEqDiff, Nat.reduceBEq, Nat.reduceLeDiff, Nat.reduceMul, ttL, tyL, ht, Bool.not_false, Bool.not_true]
      all_goals
        refine IdxR.nat hE 9000 hjm rfl ?_
        simp only [evX, reduceIte, reduceCtorEq, Nat.reduceLT, Nat.reduceAdd, Nat.reduceEqDiff, Nat.reduceBEq, Nat.reduceLeDiff, Nat.reduceMul, ttL, tyL, ht]
        refine AppG.by hE 9000 rfl rfl (by simp [rowLen]) (by simp; omega) ?_
        simp only [evX, reduceIte, reduceCtorEq, Nat.reduceLT, Nat.reduceAdd, Nat.reduceEqDiff, Nat.reduceBEq, Nat.reduceLeDiff, Nat.reduceMul, ttL, tyL, ht]
        refine ⟨⟨j - 1, by omega⟩, [5, 1], Wk.of rfl (by simp) (by rw [h0]; simp [fixB]) ?_ ?_ (by simp) (by simp), by simp only; omega⟩
        · simp [wkT, okA, Vam.look, sig]
          rw [wrap64 (by omega) (by omega)]
        · simp [wkBs, nthB, wkBx, wkL, okA, sig, wkT, Vam.look, hst]
    | some r =>
      obtain ⟨m, y⟩ := r
      rw [ho] at hov
      have hml := (pastN_like ho).2.1
      (refine CallG.ok hE 9000 (hP ▸ hov) rfl rfl ?_ <;> simp only [evX, reduceIte, reduceCtorEq, Nat.reduceLT, Nat.reduceAdd, Nat.reduceEqDiff, Nat.reduceBEq, Nat.reduceLeDiff, Nat.reduceMul, ttL, tyL, ht])
      simp only [retE, evX, reduceIte, reduceCtorEq, Nat.reduceLT, Nat.reduceAdd, Nat.reduceEqDiff, Nat.reduceBEq, Nat.reduceLeDiff, Nat.reduceMul, ttL, tyL, ht]
      (refine StG.by hE ht 9000 rfl ?_ <;> simp only [evX, reduceIte, reduceCtorEq, Nat.reduceLT, Nat.reduceAdd, Nat.reduceEqDiff, Nat.reduceBEq, Nat.reduceLeDiff, Nat.reduceMul, ttL, tyL, ht])
      cases hin : inIds ids l[j - 1] <;> simp only [evX, reduceIte, reduceCtorEq, Nat.reduceLT, Nat.reduceAdd, Nat.reduceEqDiff, Nat.reduceBEq, Nat.reduceLeDiff, Nat.reduceMul, ttL, tyL, ht, Bool.not_false, Bool.not_true]
      · have hst : pickN (l.drop (j - 1)) ids = (m, y :: st) := by rw [hnx, pickS, ho]; simp [hin]
        refine AppG.by hE 9000 rfl rfl (by simp [rowLen]) (by simp; omega) ?_
        simp only [evX, reduceIte, reduceCtorEq, Nat.reduceLT, Nat.reduceAdd, Nat.reduceEqDiff, Nat.reduceBEq, Nat.reduceLeDiff, Nat.reduceMul, ttL, tyL, ht]
        refine ⟨⟨j - 1, by omega⟩, [2, 5], Wk.of rfl (by simp) (by rw [h0]; simp [fixB]) ?_ ?_ (by simp) (by simp), by simp only; omega⟩
        · simp [wkT, okA, Vam.look, sig]
          rw [wrap64 (by omega) (by omega)]
        · simp [wkBs, nthB, wkBx, wkL, okA, sig, wkT, Vam.look, hst]
      · have hst : pickN (l.drop (j - 1)) ids = (l[j - 1] :: ap, st) := by rw [hnx, pickS, ho]; simp [hin]
        refine IdxR.nat hE 9000 hjm rfl ?_
        simp only [evX, reduceIte, reduceCtorEq, Nat.reduceLT, Nat.reduceAdd, Nat.reduceEqDiff, Nat.reduceBEq, Nat.reduceLeDiff, Nat.reduceMul, ttL, tyL, ht]
        refine AppG.by hE 9000 rfl rfl (by simp [rowLen]) (by simp; omega) ?_
        simp only [evX, reduceIte, reduceCtorEq, Nat.reduceLT, Nat.reduceAdd, Nat.reduceEqDiff, Nat.reduceBEq, Nat.reduceLeDiff, Nat.reduceMul, ttL, tyL, ht]
        refine ⟨⟨j - 1, by omega⟩, [5, 1], Wk.of rfl (by simp) (by rw [h0]; simp [fixB]) ?_ ?_ (by simp) (by simp), by simp only; omega⟩
        · simp [wkT, okA, Vam.look, sig]
          rw [wrap64 (by omega) (by omega)]
        · simp [wkBs, nthB, wkBx, wkL, okA, sig, wkT, Vam.look, hst]
  · have hj0 : j = 0 := by simp at hb; omega
    subst hj0
    rw [List.drop_zero] at hpt
    rw [hpt]
    exact RetQ.two (.inr rfl) rfl rfl rfl rfl
end Go.Proofs.YthfogkmhgepgaaaGreat
