/- Lists of changes that pass one another: the program's way. -/
import Derived.Test.YtfjlopdofjbfgaaGreatTd5
import Derived.Test.YtfjlopdofjbfgaaGreatG11
namespace Go.Proofs.YtfjlopdofjbfgaaGreat
open Go.Vam Go.Qm
set_option linter.unusedVariables false
set_option linter.unusedSimpArgs false
set_option maxRecDepth 8000
set_option maxHeartbeats 2000000

theorem ok_flowOwn (l : List Prim) (hl : l.length * 96 ≤ 140737488355328) (bl : ∀ p ∈ l, primB p) : Ok Tryz.prog 34 [primsA l] (.own 42 6 (primsC l)) := by
  (refine Ok.code hT hM (fn := Tryz.f34) rfl rfl rfl _ _ rfl rfl (Nat.le_of_ble_eq_true rfl) fun E hE hP ht h0 hrd => ?_; refine Go.run hE 9000 ?_; simp only [Tryz.f34, evX, reduceIte, reduceCtorEq, Nat.reduceLT, Nat.reduceAdd, Nat.reduceEqDiff, Nat.reduceBEq, Nat.reduceLeDiff, Nat.reduceMul, ttL, tyL, ht])
  refine Go.nilT 3 42 6 rfl ?_
  refine Loop.by hE (ι := {i : Nat // i ≤ l.length}) (fun i => ⟨20, [(3, .own 0), (6, primsA l), (7, intA l.length), (8, intA i.1)], [.rows 42 6 (primsC (l.take i.1))], [], []⟩) (fun i => l.length - i.1) ⟨0, by simp⟩ 9000 ⟨[0], Wk.of rfl (by simp) (by rw [h0]; simp [fixB]) (by simp [wkT, okA, wkP, cloE, Vam.look, sig, ]) (by simp [wkBs, setBx, nthB, wkBx, wkL, okA, wkP, cloE, sig, ]) (by simp) (by simp)⟩ (by simp [h0]) ?_
  rintro ⟨i, hi⟩
  simp only [evX, reduceIte, reduceCtorEq, Nat.reduceLT, Nat.reduceAdd, Nat.reduceEqDiff, Nat.reduceBEq, Nat.reduceLeDiff, Nat.reduceMul, ttL, tyL, ht]
  ((first | refine SelF.byN (fun hb => ?_) (fun hb => ?_) | refine SelF.by (fun hb => ?_) (fun hb => ?_)) <;> simp only [hb, evX, reduceIte, reduceCtorEq, Nat.reduceLT, Nat.reduceAdd, Nat.reduceEqDiff, Nat.reduceBEq, Nat.reduceLeDiff, Nat.reduceMul, ttL, tyL, ht])
  · simp only [decide_eq_true_eq] at hb
    have hlt : i < l.length := by omega
    refine IdxR.nat hE 9000 hlt rfl ?_
    simp only [evX, reduceIte, reduceCtorEq, Nat.reduceLT, Nat.reduceAdd, Nat.reduceEqDiff, Nat.reduceBEq, Nat.reduceLeDiff, Nat.reduceMul, ttL, tyL, ht]
    (refine StG.by hE ht 9000 rfl ?_ <;> simp only [evX, reduceIte, reduceCtorEq, Nat.reduceLT, Nat.reduceAdd, Nat.reduceEqDiff, Nat.reduceBEq, Nat.reduceLeDiff, Nat.reduceMul, ttL, tyL, ht])
    have hm := bl _ (List.getElem_mem hlt)
    (refine CallG.ok hE 9000 (hP ▸ ok_turnP l[i] hm) rfl rfl ?_ <;> simp only [evX, reduceIte, reduceCtorEq, Nat.reduceLT, Nat.reduceAdd, Nat.reduceEqDiff, Nat.reduceBEq, Nat.reduceLeDiff, Nat.reduceMul, ttL, tyL, ht])
    (refine CallG.ok hE 9000 (hP ▸ ok_turnP (turnP l[i]) (turnP_B hm)) rfl rfl ?_ <;> simp only [evX, reduceIte, reduceCtorEq, Nat.reduceLT, Nat.reduceAdd, Nat.reduceEqDiff, Nat.reduceBEq, Nat.reduceLeDiff, Nat.reduceMul, ttL, tyL, ht])
    rw [turnP_turnP]
    refine AppG.by hE 9000 rfl rfl (by simp [rowLen]) (by simp; omega) ?_
    simp only [evX, reduceIte, reduceCtorEq, Nat.reduceLT, Nat.reduceAdd, Nat.reduceEqDiff, Nat.reduceBEq, Nat.reduceLeDiff, Nat.reduceMul, ttL, tyL, ht]
    have htk : primsC (l.take i) ++ [primC l[i]] = primsC (l.take (i + 1)) := by simp only [primsC]; rw [List.take_add_one, List.getElem?_eq_getElem hlt, List.map_append]; rfl
    rw [htk]
    refine ⟨⟨i + 1, by omega⟩, [3], Wk.of rfl (by simp) (by rw [h0]; simp [fixB]) (by simp [wkT, okA, wkP, cloE, Vam.look, sig, wrapN i (by omega)]) (by simp [wkBs, setBx, nthB, wkBx, wkL, okA, wkP, cloE, sig, wrapN i (by omega)]) (by simp) (by simp), by simp only; omega⟩
  · have : i = l.length := by simp at hb; omega
    subst this

    rw [List.take_length]
    exact RetQ.own (.inr rfl) rfl rfl rfl rfl
theorem passOne_keep {K : Prim → Prop} (hK : ∀ p q x y, K p → K q → passP p q = some (x, y) → K x ∧ K y) {l : List Prim} {q y : Prim} {m : List Prim} (h : passOne l q = some (y, m)) (hl : ∀ p ∈ l, K p) (hq : K q) : K y ∧ ∀ p ∈ m, K p := by
  induction l generalizing y m with
  | nil =>
    simp only [passOne, Option.some.injEq, Prod.mk.injEq] at h
    obtain ⟨rfl, rfl⟩ := h
    exact ⟨hq, by simp⟩
  | cons p l ih =>
    obtain ⟨x, p', l', h1, h2, rfl⟩ := passOne_cons.1 h
    obtain ⟨k1, k2⟩ := ih h1 (fun z hz => hl z (by simp [hz]))
    obtain ⟨k3, k4⟩ := hK _ _ _ _ (hl p (by simp)) k1 h2
    exact ⟨k3, by simpa using ⟨k4, k2⟩⟩
theorem passL_keep {K : Prim → Prop} (hK : ∀ p q x y, K p → K q → passP p q = some (x, y) → K x ∧ K y) {a b f m : List Prim} (h : passL a b = some (f, m)) (ha : ∀ p ∈ a, K p) (hb : ∀ p ∈ b, K p) : (∀ p ∈ f, K p) ∧ ∀ p ∈ m, K p := by
  induction b generalizing a f with
  | nil =>
    simp only [passL, Option.some.injEq, Prod.mk.injEq] at h
    obtain ⟨rfl, rfl⟩ := h
    exact ⟨by simp, ha⟩
  | cons q b ih =>
    obtain ⟨x, a', f', h1, h2, rfl⟩ := passL_cons.1 h
    obtain ⟨k1, k2⟩ := passOne_keep hK h1 ha (hb q (by simp))
    obtain ⟨k3, k4⟩ := ih h2 k2 (fun z hz => hb z (by simp [hz]))
    exact ⟨by simpa using ⟨k1, k3⟩, k4⟩
def okP (p : Prim) : Prop := primB p ∧ primR p
theorem okP_pass (p q x y : Prim) (hp : okP p) (hq : okP q) (h : passP p q = some (x, y)) : okP x ∧ okP y := by
  obtain ⟨b1, b2⟩ := pass_B h hp.1 hq.1
  obtain ⟨r1, r2⟩ := pass_R h hp.2 hq.2
  exact ⟨⟨b1, r1⟩, ⟨b2, r2⟩⟩
def passLT (a b : List Prim) : List Prim × List Prim × Bool := match passL a b with
  | some r => (r.1, r.2, true)
  | none => ([], [], false)
theorem ok_flowPass (a b : List Prim) (ba : a.length * 96 ≤ 140737488355328) (bb : b.length * 96 ≤ 140737488355328) (ka : ∀ p ∈ a, okP p) (kb : ∀ p ∈ b, okP p) : Ok Tryz.prog 17 [primsA a, primsA b] (.v (.tup [primsA (passLT a b).1, primsA (passLT a b).2.1, boolA (passLT a b).2.2])) := by
  (refine Ok.code hT hM (fn := Tryz.f17) rfl rfl rfl _ _ rfl rfl (Nat.le_of_ble_eq_true rfl) fun E hE hP ht h0 hrd => ?_; refine Go.run hE 9000 ?_; simp only [Tryz.f17, evX, reduceIte, reduceCtorEq, Nat.reduceLT, Nat.reduceAdd, Nat.reduceEqDiff, Nat.reduceBEq, Nat.reduceLeDiff, Nat.reduceMul, ttL, tyL, ht])
  (refine CallG.ok hE 9000 (hP ▸ ok_flowOwn a ba (fun p hp => (ka p hp).1)) rfl rfl ?_ <;> simp only [evX, reduceIte, reduceCtorEq, Nat.reduceLT, Nat.reduceAdd, Nat.reduceEqDiff, Nat.reduceBEq, Nat.reduceLeDiff, Nat.reduceMul, ttL, tyL, ht])
  (refine CallG.ok hE 9000 (hP ▸ ok_flowOwn b bb (fun p hp => (kb p hp).1)) rfl rfl ?_ <;> simp only [evX, reduceIte, reduceCtorEq, Nat.reduceLT, Nat.reduceAdd, Nat.reduceEqDiff, Nat.reduceBEq, Nat.reduceLeDiff, Nat.reduceMul, ttL, tyL, ht])
  refine Go.frzT 17 1 rfl rfl rfl ?_
  refine Go.nilT 7 42 6 rfl ?_
  refine Loop.by hE (ι := {s : Nat × List Prim × List Prim // s.1 ≤ b.length ∧ passL a (b.take s.1) = some (s.2.1, s.2.2)}) (fun s => ⟨41, [(7, .own 1), (8, .own 0), (17, primsA b), (18, intA b.length), (19, intA s.1.1)], [.rows 42 6 (primsC s.1.2.2), .rows 42 6 (primsC s.1.2.1)], [], []⟩) (fun s => b.length - s.1.1) ⟨(0, [], a), by simp [passL]⟩ 9000 ⟨[0, 2], Wk.of rfl (by simp) (by rw [h0]; simp [fixB]) (by simp [wkT, okA, wkP, cloE, Vam.look, sig, St.frz]) (by simp [wkBs, setBx, nthB, wkBx, wkL, okA, wkP, cloE, sig, St.frz]) (by simp) (by simp)⟩ (by simp [h0]) ?_
  rintro ⟨⟨i, f, m⟩, hi, hpass⟩
  simp only [evX, reduceIte, reduceCtorEq, Nat.reduceLT, Nat.reduceAdd, Nat.reduceEqDiff, Nat.reduceBEq, Nat.reduceLeDiff, Nat.reduceMul, ttL, tyL, ht]
  ((first | refine SelF.byN (fun hb => ?_) (fun hb => ?_) | refine SelF.by (fun hb => ?_) (fun hb => ?_)) <;> simp only [hb, evX, reduceIte, reduceCtorEq, Nat.reduceLT, Nat.reduceAdd, Nat.reduceEqDiff, Nat.reduceBEq, Nat.reduceLeDiff, Nat.reduceMul, ttL, tyL, ht])
  · simp only [decide_eq_true_eq] at hb
    have hlt : i < b.length := by omega
    refine IdxR.nat hE 9000 hlt rfl ?_
    simp only [evX, reduceIte, reduceCtorEq, Nat.reduceLT, Nat.reduceAdd, Nat.reduceEqDiff, Nat.reduceBEq, Nat.reduceLeDiff, Nat.reduceMul, ttL, tyL, ht]
    (refine StG.by hE ht 9000 rfl ?_ <;> simp only [evX, reduceIte, reduceCtorEq, Nat.reduceLT, Nat.reduceAdd, Nat.reduceEqDiff, Nat.reduceBEq, Nat.reduceLeDiff, Nat.reduceMul, ttL, tyL, ht])
    (refine StG.by hE ht 9000 rfl ?_ <;> simp only [evX, reduceIte, reduceCtorEq, Nat.reduceLT, Nat.reduceAdd, Nat.reduceEqDiff, Nat.reduceBEq, Nat.reduceLeDiff, Nat.reduceMul, ttL, tyL, ht])
    refine CallG.inl hE hP ht (fn := Tryz.f35) rfl rfl rfl _ _ rfl rfl _ rfl (Nat.le_of_ble_eq_true rfl) fun E' hE' hP' ht' h0' hrd' => ?_
    refine Go.run hE' 9000 ?_
    simp only [Tryz.f35, evX, reduceIte, reduceCtorEq, Nat.reduceLT, Nat.reduceAdd, Nat.reduceEqDiff, Nat.reduceBEq, Nat.reduceLeDiff, Nat.reduceMul, ttL, tyL, ht']
    refine CloG.by hE' 9000 ?_
    simp only [evX, reduceIte, reduceCtorEq, Nat.reduceLT, Nat.reduceAdd, Nat.reduceEqDiff, Nat.reduceBEq, Nat.reduceLeDiff, Nat.reduceMul, ttL, tyL, ht']
    refine InlQ.by hE 9000 (.inr rfl) rfl ?_
    simp only [evX, reduceIte, reduceCtorEq, Nat.reduceLT, Nat.reduceAdd, Nat.reduceEqDiff, Nat.reduceBEq, Nat.reduceLeDiff, Nat.reduceMul, ttL, tyL, ht]
    simp only at hi hpass
    have kb' : ∀ p ∈ b.take i, okP p := fun p hp => kb p (List.mem_of_mem_take hp)
    obtain ⟨kf, km⟩ := passL_keep okP_pass hpass ka kb'
    obtain ⟨hfl, hml⟩ := passL_len hpass
    have kq : okP b[i] := kb _ (List.getElem_mem hlt)
    refine Rng.by hE hP ht hrd (fn := Tryz.f52) rfl rfl rfl rfl _ _ rfl rfl _ rfl (Nat.le_of_ble_eq_true rfl) fun E'' tm' ps' as' bd' hE'' hP'' ht'' h0'' hrd'' htm hps has hbd => ?_
    refine Go.run hE'' 9000 ?_
    simp only [Tryz.f52, evX, reduceIte, reduceCtorEq, Nat.reduceLT, Nat.reduceAdd, Nat.reduceEqDiff, Nat.reduceBEq, Nat.reduceLeDiff, Nat.reduceMul, ttL, tyL, ht'']
    simp only [List.length_cons, List.length_nil] at h0''
    refine Loop.by hE'' (ι := {s : Nat × Prim × List Prim // s.1 ≤ m.length ∧ passOne (m.drop s.1) b[i] = some (s.2.1, s.2.2)}) (fun s => ⟨37, [(0, .yld 6), (1, .ptr 4 0), (2, .ptr 5 0), (4, intA ((s.1.1 : Int) - 1))], [.rows 42 6 (primsC (m.take s.1.1 ++ s.1.2.2)), .rows 42 6 (primsC f), .cells ((primC s.1.2.1).map .c), .cells [intA s.1.1], .cells [.own 0], .cells ((primC s.1.2.1).map .c), .lp 41 tm' ps' as' bd' .ready none], [], []⟩) (fun s => s.1.1) ⟨(m.length, b[i], []), Nat.le_refl _, by simp [passOne]⟩ 9000 ⟨[0, 1, 2, 3, 4, 5, 6], ?_⟩ (by simp [h0'']) ?_
    · subst htm
      refine Wk.of rfl (by simp) (by rw [h0'']; simp [fixB]) ?_ ?_ (by simp) (by simp)
      · simp [wkT, okA, Vam.look, sig]
        rw [wrap64 (by omega) (by omega)]
      · simp [wkBs, setBx, nthB, wkBx, wkL, okA, wkP, cloE, sig, wkT, Vam.look, List.take_length]
    · rintro ⟨⟨j, x, l'⟩, hj, hone⟩
      simp only at hj hone
      simp only [evX, reduceIte, reduceCtorEq, Nat.reduceLT, Nat.reduceAdd, Nat.reduceEqDiff, Nat.reduceBEq, Nat.reduceLeDiff, Nat.reduceMul, ttL, tyL, ht'']
      ((first | refine SelF.byN (fun hb => ?_) (fun hb => ?_) | refine SelF.by (fun hb => ?_) (fun hb => ?_)) <;> simp only [hb, evX, reduceIte, reduceCtorEq, Nat.reduceLT, Nat.reduceAdd, Nat.reduceEqDiff, Nat.reduceBEq, Nat.reduceLeDiff, Nat.reduceMul, ttL, tyL, ht''])
      · simp only [decide_eq_true_eq] at hb
        have hj0 : 0 < j := by omega
        have hjm : j - 1 < m.length := by omega
        rw [show ((j : Int) - 1) = ((j - 1 : Nat) : Int) by omega]
        have hrow : (primsC (m.take j ++ l'))[j - 1]? = some (primC m[j - 1]) := by
          rw [List.getElem?_map, List.getElem?_append_left (by simp; omega), List.getElem?_take_of_lt (by omega), List.getElem?_eq_getElem hjm]
          rfl
        have hlen : j - 1 < (primsC (m.take j ++ l')).length := by simp; omega
        obtain ⟨kx, kl'⟩ := passOne_keep okP_pass hone (fun p hp => km p (List.mem_of_mem_drop hp)) kq
        have kp := km _ (List.getElem_mem hjm)
        have hd1 : m.drop (j - 1) = m[j - 1] :: m.drop j := by
          rw [List.drop_eq_getElem_cons hjm, show j - 1 + 1 = j by omega]
        refine IdxO.by hE'' 9000 (by omega) (by omega) ?_
        simp only [evX, reduceIte, reduceCtorEq, Nat.reduceLT, Nat.reduceAdd, Nat.reduceEqDiff, Nat.reduceBEq, Nat.reduceLeDiff, Nat.reduceMul, ttL, tyL, ht'']
        refine LdO.by hE'' (j := j - 1) (row := primC m[j - 1]) 9000 hrow (by simp) (by simp) ?_
        try simp only [Int.toNat_natCast, Nat.sub_self]
        simp only [evX, reduceIte, reduceCtorEq, Nat.reduceLT, Nat.reduceAdd, Nat.reduceEqDiff, Nat.reduceBEq, Nat.reduceLeDiff, Nat.reduceMul, ttL, tyL, ht'']
        refine CallG.ok hE'' 9000 (hP'' ▸ ok_passPass m[j - 1] x kp.1 kx.1 kp.2 kx.2) rfl rfl ?_
        simp only [evX, reduceIte, reduceCtorEq, Nat.reduceLT, Nat.reduceAdd, Nat.reduceEqDiff, Nat.reduceBEq, Nat.reduceLeDiff, Nat.reduceMul, ttL, tyL, ht'']
        refine StG.byX hE'' ht'' 9000 rfl rfl ?_
        simp only [evX, reduceIte, reduceCtorEq, Nat.reduceLT, Nat.reduceAdd, Nat.reduceEqDiff, Nat.reduceBEq, Nat.reduceLeDiff, Nat.reduceMul, ttL, tyL, ht'']
        refine StG.byX hE'' ht'' 9000 rfl rfl ?_
        simp only [evX, reduceIte, reduceCtorEq, Nat.reduceLT, Nat.reduceAdd, Nat.reduceEqDiff, Nat.reduceBEq, Nat.reduceLeDiff, Nat.reduceMul, ttL, tyL, ht'']
        refine ⟨by kernel_rfl, ?_⟩
        cases hs : (passPT m[j - 1] x).2.2
        · simp only [evX, reduceIte, reduceCtorEq, Nat.reduceLT, Nat.reduceAdd, Nat.reduceEqDiff, Nat.reduceBEq, Nat.reduceLeDiff, Nat.reduceMul, ttL, tyL, ht'', Bool.not_false]
          refine RngQ.by hE 9000 (.inr rfl) rfl rfl (by simp) rfl ?_
          simp only [htm]
          simp only [evX, reduceIte, reduceCtorEq, Nat.reduceLT, Nat.reduceAdd, Nat.reduceEqDiff, Nat.reduceBEq, Nat.reduceLeDiff, Nat.reduceMul, ttL, tyL, ht]
          have hpn : passP m[j - 1] x = none := by
            cases h : passP m[j - 1] x with
            | none => rfl
            | some r => rw [passPT, h] at hs; simp at hs
          have e : passLT a b = ([], [], false) := by rw [passLT, passL_fail hlt hpass (passOne_fail hjm (by rw [show j - 1 + 1 = j by omega]; exact hone) hpn)]
          have hd : decide ((j : Int) > 0) = true := by simpa using hj0
          simp only [hd, evX, reduceIte, reduceCtorEq, Nat.reduceLT, Nat.reduceAdd, Nat.reduceEqDiff, Nat.reduceBEq, Nat.reduceLeDiff, Nat.reduceMul, ttL, tyL, ht]
          rw [e]
          exact RetQ.three (.inr rfl) rfl rfl rfl rfl rfl
        · simp only [evX, reduceIte, reduceCtorEq, Nat.reduceLT, Nat.reduceAdd, Nat.reduceEqDiff, Nat.reduceBEq, Nat.reduceLeDiff, Nat.reduceMul, ttL, tyL, ht'', Bool.not_true]
          refine StG.byX hE'' ht'' 9000 rfl rfl ?_
          simp only [evX, reduceIte, reduceCtorEq, Nat.reduceLT, Nat.reduceAdd, Nat.reduceEqDiff, Nat.reduceBEq, Nat.reduceLeDiff, Nat.reduceMul, ttL, tyL, ht'']
          refine IdxO.by hE'' 9000 (by omega) (by omega) ?_
          simp only [evX, reduceIte, reduceCtorEq, Nat.reduceLT, Nat.reduceAdd, Nat.reduceEqDiff, Nat.reduceBEq, Nat.reduceLeDiff, Nat.reduceMul, ttL, tyL, ht'']
          refine StG.byOD hE'' ht'' (j := j - 1) 9000 rfl rfl rfl rfl rfl hrow rfl (by simp) (by simp [tyL]) (by kernel_rfl) ?_
          simp only [evX, reduceIte, reduceCtorEq, Nat.reduceLT, Nat.reduceAdd, Nat.reduceEqDiff, Nat.reduceBEq, Nat.reduceLeDiff, Nat.reduceMul, ttL, tyL, ht'']
          have hpp := passPT_some hs
          have hset : (primsC (m.take j ++ l')).set (j - 1) (List.take ((((j - 1 : Nat) : Int)).toNat * 6 - (j - 1) * 6) (primC m[j - 1]) ++ primC (passPT m[j - 1] x).2.1) = primsC (m.take (j - 1) ++ (passPT m[j - 1] x).2.1 :: l') := by
            have e1 : m.take j = m.take (j - 1) ++ [m[j - 1]] := by
              conv => lhs; rw [show j = j - 1 + 1 by omega]
              rw [List.take_add_one, List.getElem?_eq_getElem hjm]
              rfl
            rw [Int.toNat_natCast, Nat.sub_self, List.take_zero, List.nil_append, e1]
            simp only [primsC, List.map_append, List.append_assoc, List.map_cons, List.map_nil, List.singleton_append]
            have e2 : (List.map primC (List.take (j - 1) m)).length = j - 1 := by simp; omega
            rw [List.set_append_right _ _ (by omega), e2, Nat.sub_self]
            rfl
          rw [hset]
          refine YldG.by hE'' hP'' ht'' rfl rfl (by rw [hps]; rfl) (by rw [hps]; simp) fun E3 hE3 hP3 ht3 h03 => ?_
          refine Go.run hE3 9000 ?_
          simp only [htm, hps, has, hbd]
          simp only [evX, reduceIte, reduceCtorEq, Nat.reduceLT, Nat.reduceAdd, Nat.reduceEqDiff, Nat.reduceBEq, Nat.reduceLeDiff, Nat.reduceMul, ttL, tyL, ht3]
          refine StG.by hE3 ht3 9000 rfl ?_
          simp only [evX, reduceIte, reduceCtorEq, Nat.reduceLT, Nat.reduceAdd, Nat.reduceEqDiff, Nat.reduceBEq, Nat.reduceLeDiff, Nat.reduceMul, ttL, tyL, ht3]
          refine AsgQ.by hE3 9000 rfl rfl ?_
          simp only [evX, reduceIte, reduceCtorEq, Nat.reduceLT, Nat.reduceAdd, Nat.reduceEqDiff, Nat.reduceBEq, Nat.reduceLeDiff, Nat.reduceMul, ttL, tyL, ht3]
          refine StG.byX hE3 ht3 9000 rfl rfl ?_
          simp only [evX, reduceIte, reduceCtorEq, Nat.reduceLT, Nat.reduceAdd, Nat.reduceEqDiff, Nat.reduceBEq, Nat.reduceLeDiff, Nat.reduceMul, ttL, tyL, ht3]
          refine StG.byX hE3 ht3 9000 rfl rfl ?_
          simp only [evX, reduceIte, reduceCtorEq, Nat.reduceLT, Nat.reduceAdd, Nat.reduceEqDiff, Nat.reduceBEq, Nat.reduceLeDiff, Nat.reduceMul, ttL, tyL, ht3]
          refine ⟨by kernel_rfl, ?_⟩
          refine YldQ.normal hE'' 9000 rfl rfl ?_
          simp only [evX, reduceIte, reduceCtorEq, Nat.reduceLT, Nat.reduceAdd, Nat.reduceEqDiff, Nat.reduceBEq, Nat.reduceLeDiff, Nat.reduceMul, ttL, tyL, ht'']
          subst htm; subst hps; subst has; subst hbd
          refine ⟨⟨(j - 1, (passPT m[j - 1] x).1, (passPT m[j - 1] x).2.1 :: l'), by simp only; omega, passOne_step hjm (by rw [show j - 1 + 1 = j by omega]; exact hone) hpp⟩, [0, 1, 2, 3, 4, 5, 6], Wk.of rfl (by simp) (by rw [h0'']; simp [fixB]) ?_ ?_ (by simp) (by simp), by simp only; omega⟩
          · simp [wkT, okA, wkP, cloE, Vam.look, sig]
            rw [wrap64 (by omega) (by omega)]
          · simp [wkBs, nthB, wkBx, wkL, okA, wkP, cloE, sig, wkT, Vam.look]
      · have hj0 : j = 0 := by simp at hb; omega
        subst hj0
        refine RngQ.by hE 9000 (.inl rfl) rfl rfl (by simp) rfl ?_
        simp only [htm]
        simp only [evX, reduceIte, reduceCtorEq, Nat.reduceLT, Nat.reduceAdd, Nat.reduceEqDiff, Nat.reduceBEq, Nat.reduceLeDiff, Nat.reduceMul, ttL, tyL, ht]
        have hd : decide (((0 : Nat) : Int) > 0) = false := by decide
        simp only [hd, evX, reduceIte, reduceCtorEq, Nat.reduceLT, Nat.reduceAdd, Nat.reduceEqDiff, Nat.reduceBEq, Nat.reduceLeDiff, Nat.reduceMul, ttL, tyL, ht]
        have hpos : 0 ≤ i := Nat.zero_le _
        refine AppG.by hE 9000 rfl rfl (by simp [rowLen]) (by simp; simp at hfl; omega) ?_
        simp only [evX, reduceIte, reduceCtorEq, Nat.reduceLT, Nat.reduceAdd, Nat.reduceEqDiff, Nat.reduceBEq, Nat.reduceLeDiff, Nat.reduceMul, ttL, tyL, ht]
        rw [show primsC f ++ [primC x] = primsC (f ++ [x]) by simp]
        have hst := passL_step hlt hpass (by simpa using hone)
        refine ⟨⟨(i + 1, f ++ [x], l'), by omega, hst⟩, [0, 8], Wk.of rfl (by simp) (by rw [h0]; simp [fixB]) (by simp [wkT, okA, wkP, cloE, Vam.look, sig, wrapN i (by omega)]) (by simp [wkBs, setBx, nthB, wkBx, wkL, okA, wkP, cloE, sig, wrapN i (by omega)]) (by simp) (by simp), by simp only; omega⟩
  · have hi' : i = b.length := by simp at hb; simp at hi; omega
    subst hi'
    have e : passLT a b = (f, m, true) := by
      simp only [List.take_length] at hpass
      rw [passLT, hpass]
    rw [e]
    exact RetQ.three (.inr rfl) rfl rfl rfl rfl rfl
end Go.Proofs.YtfjlopdofjbfgaaGreat
