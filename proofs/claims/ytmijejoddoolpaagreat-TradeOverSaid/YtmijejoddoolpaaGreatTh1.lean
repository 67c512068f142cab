/- Named patches that pass one another: the program's way. -/
import Derived.Test.YtmijejoddoolpaaGreatTf1
import Derived.Test.YtmijejoddoolpaaGreatTe4
import Derived.Test.YtmijejoddoolpaaGreatG10
import Derived.Test.YtmijejoddoolpaaGreatG11
namespace Go.Proofs.YtmijejoddoolpaaGreat
open Go.Vam Go.Qm
set_option linter.unusedVariables false
set_option linter.unusedSimpArgs false
set_option maxRecDepth 8000
set_option maxHeartbeats 2000000

theorem ok_IndexId (l : List Qm.Id) (x : Qm.Id) (hl : l.length < 9223372036854775807) : Ok Tryz.prog 64 [idsA l, idA x] (.v (intA (idxI (fun y => idEq y x) l))) := by
  (refine Ok.code hT hM (fn := Tryz.f64) rfl rfl rfl _ _ rfl rfl (Nat.le_of_ble_eq_true rfl) fun E hE hP ht h0 hrd => ?_; refine Go.run hE 9000 ?_; simp only [Tryz.f64, evX, reduceIte, reduceCtorEq, Nat.reduceLT, Nat.reduceAdd, Nat.reduceEqDiff, Nat.reduceBEq, Nat.reduceLeDiff, Nat.reduceMul, ttL, tyL, ht])
  refine Loop.by hE (ι := {i : Nat // i ≤ l.length ∧ (l.take i).any (fun y => idEq y x) = false}) (fun i => ⟨19, [(0, idsA l), (3, .ptr 0 0), (7, intA l.length), (8, intA i.1)], [.cells ((idC x).map .c)], [], []⟩) (fun i => l.length - i.1) ⟨0, by simp⟩ 9000 ⟨[0], Wk.of rfl (by simp) (by rw [h0]; simp [fixB]) (by simp [wkT, okA, wkP, cloE, Vam.look, sig, ]) (by simp [wkBs, setBx, nthB, wkBx, wkL, okA, wkP, cloE, sig, ]) (by simp) (by simp)⟩ (by simp [h0]) ?_
  rintro ⟨i, hi, hall⟩
  simp only [evX, reduceIte, reduceCtorEq, Nat.reduceLT, Nat.reduceAdd, Nat.reduceEqDiff, Nat.reduceBEq, Nat.reduceLeDiff, Nat.reduceMul, ttL, tyL, ht]
  ((first | refine SelF.byN (fun hb => ?_) (fun hb => ?_) | refine SelF.by (fun hb => ?_) (fun hb => ?_)) <;> simp only [hb, evX, reduceIte, reduceCtorEq, Nat.reduceLT, Nat.reduceAdd, Nat.reduceEqDiff, Nat.reduceBEq, Nat.reduceLeDiff, Nat.reduceMul, ttL, tyL, ht])
  · simp only [decide_eq_true_eq] at hb
    have hlt : i < l.length := by omega
    refine IdxR.nat hE 9000 hlt rfl ?_
    simp only [evX, reduceIte, reduceCtorEq, Nat.reduceLT, Nat.reduceAdd, Nat.reduceEqDiff, Nat.reduceBEq, Nat.reduceLeDiff, Nat.reduceMul, ttL, tyL, ht]
    (refine HardOp.eqI hE 9000 rfl (hP ▸ eqT) rfl ?_ <;> simp only [evX, reduceIte, reduceCtorEq, Nat.reduceLT, Nat.reduceAdd, Nat.reduceEqDiff, Nat.reduceBEq, Nat.reduceLeDiff, Nat.reduceMul, ttL, tyL, ht])
    refine ⟨by kernel_rfl, ?_⟩
    have hc : (x.who == l[i].who && x.no == l[i].no) = idEq l[i] x := by rw [idEq_comm]; rfl
    simp only [hc, evX, reduceIte, reduceCtorEq, Nat.reduceLT, Nat.reduceAdd, Nat.reduceEqDiff, Nat.reduceBEq, Nat.reduceLeDiff, Nat.reduceMul, ttL, tyL, ht]
    ((first | refine SelF.byN (fun hb => ?_) (fun hb => ?_) | refine SelF.by (fun hb => ?_) (fun hb => ?_)) <;> simp only [hb, evX, reduceIte, reduceCtorEq, Nat.reduceLT, Nat.reduceAdd, Nat.reduceEqDiff, Nat.reduceBEq, Nat.reduceLeDiff, Nat.reduceMul, ttL, tyL, ht])
    · exact RetQ.c (.inr rfl) rfl (by rw [idxI_at hlt hall hb])
    · refine ⟨⟨i + 1, by omega, by rw [any_take hlt, hall, hb]; rfl⟩, [0], Wk.of rfl (by simp) (by rw [h0]; simp [fixB]) (by simp [wkT, okA, wkP, cloE, Vam.look, sig, wrapN i (by omega)]) (by simp [wkBs, setBx, nthB, wkBx, wkL, okA, wkP, cloE, sig, wrapN i (by omega)]) (by simp) (by simp), by simp only; omega⟩
  · exact RetQ.c (.inr rfl) rfl (by rw [idxI_none hi (by simpa using hb) hall])
theorem ok_ContainsId (l : List Qm.Id) (x : Qm.Id) (hl : l.length < 9223372036854775807) : Ok Tryz.prog 39 [idsA l, idA x] (.v (boolA (l.any fun y => idEq y x))) := by
  (refine Ok.code hT hM (fn := Tryz.f39) rfl rfl rfl _ _ rfl rfl (Nat.le_of_ble_eq_true rfl) fun E hE hP ht h0 hrd => ?_; refine Go.run hE 9000 ?_; simp only [Tryz.f39, evX, reduceIte, reduceCtorEq, Nat.reduceLT, Nat.reduceAdd, Nat.reduceEqDiff, Nat.reduceBEq, Nat.reduceLeDiff, Nat.reduceMul, ttL, tyL, ht])
  (refine CallG.ok hE 9000 (hP ▸ ok_IndexId l x hl) rfl rfl ?_ <;> simp only [evX, reduceIte, reduceCtorEq, Nat.reduceLT, Nat.reduceAdd, Nat.reduceEqDiff, Nat.reduceBEq, Nat.reduceLeDiff, Nat.reduceMul, ttL, tyL, ht])
  exact RetQ.bool (.inr rfl) rfl (idxI_nn _ l)
theorem ok_CloneId (a : List Qm.Id) (hl : a.length * 16 ≤ 140737488355328) : Ok Tryz.prog 65 [idsA a] (.v (idsA a)) := by
  (refine Ok.code hT hM (fn := Tryz.f65) rfl rfl rfl _ _ rfl rfl (Nat.le_of_ble_eq_true rfl) fun E hE hP ht h0 hrd => ?_; refine Go.run hE 9000 ?_; simp only [Tryz.f65, evX, reduceIte, reduceCtorEq, Nat.reduceLT, Nat.reduceAdd, Nat.reduceEqDiff, Nat.reduceBEq, Nat.reduceLeDiff, Nat.reduceMul, ttL, tyL, ht])
  refine IsNilG.sl hE 9000 fun b hb0 => ?_
  simp only [evX, reduceIte, reduceCtorEq, Nat.reduceLT, Nat.reduceAdd, Nat.reduceEqDiff, Nat.reduceBEq, Nat.reduceLeDiff, Nat.reduceMul, ttL, tyL, ht]
  ((first | refine SelF.byN (fun hb => ?_) (fun hb => ?_) | refine SelF.by (fun hb => ?_) (fun hb => ?_)) <;> simp only [hb, evX, reduceIte, reduceCtorEq, Nat.reduceLT, Nat.reduceAdd, Nat.reduceEqDiff, Nat.reduceBEq, Nat.reduceLeDiff, Nat.reduceMul, ttL, tyL, ht])
  · have ha : a = [] := by have := hb0 hb; simpa using this
    subst ha
    exact RetQ.val (.inr rfl) rfl rfl rfl
  · refine AppG.by hE 9000 rfl rfl (by simp [rowLen]) (by simpa using hl) ?_
    simp only [evX, reduceIte, reduceCtorEq, Nat.reduceLT, Nat.reduceAdd, Nat.reduceEqDiff, Nat.reduceBEq, Nat.reduceLeDiff, Nat.reduceMul, ttL, tyL, ht]
    exact RetQ.ownV (.inr rfl) rfl rfl rfl rfl
theorem ok_with (p : Named) (l : List Prim) (hd : p.deps.length * 16 ≤ 140737488355328) : Ok Tryz.prog 40 [namedA p, primsA l] (.v (namedA (withL p l))) := by
  (refine Ok.code hT hM (fn := Tryz.f40) rfl rfl rfl _ _ rfl rfl (Nat.le_of_ble_eq_true rfl) fun E hE hP ht h0 hrd => ?_; refine Go.run hE 9000 ?_; simp only [Tryz.f40, evX, reduceIte, reduceCtorEq, Nat.reduceLT, Nat.reduceAdd, Nat.reduceEqDiff, Nat.reduceBEq, Nat.reduceLeDiff, Nat.reduceMul, ttL, tyL, ht])
  (refine CallG.ok hE 9000 (hP ▸ ok_CloneId p.deps hd) rfl rfl ?_ <;> simp only [evX, reduceIte, reduceCtorEq, Nat.reduceLT, Nat.reduceAdd, Nat.reduceEqDiff, Nat.reduceBEq, Nat.reduceLeDiff, Nat.reduceMul, ttL, tyL, ht])
  (refine StG.by hE ht 9000 rfl ?_ <;> simp only [evX, reduceIte, reduceCtorEq, Nat.reduceLT, Nat.reduceAdd, Nat.reduceEqDiff, Nat.reduceBEq, Nat.reduceLeDiff, Nat.reduceMul, ttL, tyL, ht])
  (refine StG.by hE ht 9000 rfl ?_ <;> simp only [evX, reduceIte, reduceCtorEq, Nat.reduceLT, Nat.reduceAdd, Nat.reduceEqDiff, Nat.reduceBEq, Nat.reduceLeDiff, Nat.reduceMul, ttL, tyL, ht])
  (refine StG.by hE ht 9000 rfl ?_ <;> simp only [evX, reduceIte, reduceCtorEq, Nat.reduceLT, Nat.reduceAdd, Nat.reduceEqDiff, Nat.reduceBEq, Nat.reduceLeDiff, Nat.reduceMul, ttL, tyL, ht])
  exact RetQ.cell (.inr rfl) rfl rfl rfl rfl rfl rfl rfl rfl rfl
def namedZ : Named := ⟨⟨0, 0⟩, [], ⟨#[]⟩, []⟩
def passNT (p q : Named) : Named × Named × Bool := match passN p q with
  | some r => (r.1, r.2, true)
  | none => (namedZ, namedZ, false)
structure okN (p : Named) : Prop where
  b : namedB p
  r : namedR p
theorem okN.l {p : Named} (h : okN p) : ∀ q ∈ p.l, okP q := fun q hq => ⟨h.b.2.2 q hq, h.r.2.2 q hq⟩
theorem okN_pass (p q x y : Named) (hp : okN p) (hq : okN q) (h : passN p q = some (x, y)) : okN x ∧ okN y := by
  obtain ⟨h1, f, m, h2, rfl, rfl⟩ := passN_iff.1 h
  obtain ⟨k1, k2⟩ := passL_keep okP_pass h2 hp.l hq.l
  obtain ⟨l1, l2⟩ := passL_len h2
  exact ⟨⟨⟨hq.b.1, by rw [show (withL q f).l = f from rfl, l1]; exact hq.b.2.1, fun z hz => (k1 z hz).1⟩, ⟨hq.r.1, hq.r.2.1, fun z hz => (k1 z hz).2⟩⟩,
    ⟨⟨hp.b.1, by rw [show (withL p m).l = m from rfl, l2]; exact hp.b.2.1, fun z hz => (k2 z hz).1⟩, ⟨hp.r.1, hp.r.2.1, fun z hz => (k2 z hz).2⟩⟩⟩
theorem ok_tradePass (p q : Named) (kp : okN p) (kq : okN q) : Ok Tryz.prog 19 [namedA p, namedA q] (.v (.tup [namedA (passNT p q).1, namedA (passNT p q).2.1, boolA (passNT p q).2.2])) := by
  have h1 := kp.b.1
  have h2 := kp.b.2.1
  have h3 := kq.b.1
  have h4 := kq.b.2.1
  simp only [Big] at h1 h2 h3 h4
  (refine Ok.code hT hM (fn := Tryz.f19) rfl rfl rfl _ _ rfl rfl (Nat.le_of_ble_eq_true rfl) fun E hE hP ht h0 hrd => ?_; refine Go.run hE 9000 ?_; simp only [Tryz.f19, evX, reduceIte, reduceCtorEq, Nat.reduceLT, Nat.reduceAdd, Nat.reduceEqDiff, Nat.reduceBEq, Nat.reduceLeDiff, Nat.reduceMul, ttL, tyL, ht])
  (refine CallG.ok hE 9000 (hP ▸ ok_flowPass p.l q.l (by omega) (by omega) kp.l kq.l) rfl rfl ?_ <;> simp only [evX, reduceIte, reduceCtorEq, Nat.reduceLT, Nat.reduceAdd, Nat.reduceEqDiff, Nat.reduceBEq, Nat.reduceLeDiff, Nat.reduceMul, ttL, tyL, ht])
  cases hs : passL p.l q.l with
  | none =>
    have e' : passLT p.l q.l = ([], [], false) := by rw [passLT, hs]
    have e : passNT p q = (namedZ, namedZ, false) := by
      rw [passNT, passN]
      split
      · rename_i r h
        split at h
        · simp at h
        · rw [hs] at h; simp at h
      · rfl
    simp only [e', evX, reduceIte, reduceCtorEq, Nat.reduceLT, Nat.reduceAdd, Nat.reduceEqDiff, Nat.reduceBEq, Nat.reduceLeDiff, Nat.reduceMul, ttL, tyL, ht, Bool.not_false]
    (refine StG.by hE ht 9000 rfl ?_ <;> simp only [evX, reduceIte, reduceCtorEq, Nat.reduceLT, Nat.reduceAdd, Nat.reduceEqDiff, Nat.reduceBEq, Nat.reduceLeDiff, Nat.reduceMul, ttL, tyL, ht])
    (refine StG.by hE ht 9000 rfl ?_ <;> simp only [evX, reduceIte, reduceCtorEq, Nat.reduceLT, Nat.reduceAdd, Nat.reduceEqDiff, Nat.reduceBEq, Nat.reduceLeDiff, Nat.reduceMul, ttL, tyL, ht])
    rw [e]
    exact RetQ.cct (.inr rfl) (cellV rfl rfl rfl rfl rfl rfl rfl rfl rfl) (cellV rfl rfl rfl rfl rfl rfl rfl rfl rfl) rfl rfl
  | some r =>
    have e' : passLT p.l q.l = (r.1, r.2, true) := by rw [passLT, hs]
    simp only [e', evX, reduceIte, reduceCtorEq, Nat.reduceLT, Nat.reduceAdd, Nat.reduceEqDiff, Nat.reduceBEq, Nat.reduceLeDiff, Nat.reduceMul, ttL, tyL, ht, Bool.not_true]
    (refine CallG.ok hE 9000 (hP ▸ ok_ContainsId q.deps p.id (by omega)) rfl rfl ?_ <;> simp only [evX, reduceIte, reduceCtorEq, Nat.reduceLT, Nat.reduceAdd, Nat.reduceEqDiff, Nat.reduceBEq, Nat.reduceLeDiff, Nat.reduceMul, ttL, tyL, ht])
    cases hd : q.deps.any (fun y => idEq y p.id) <;> simp only [evX, reduceIte, reduceCtorEq, Nat.reduceLT, Nat.reduceAdd, Nat.reduceEqDiff, Nat.reduceBEq, Nat.reduceLeDiff, Nat.reduceMul, ttL, tyL, ht]
    · have e : passNT p q = (withL q r.1, withL p r.2, true) := by rw [passNT, passN, if_neg (by rw [hd]; simp), hs]
      (refine CallG.ok hE 9000 (hP ▸ ok_with q r.1 (by omega)) rfl rfl ?_ <;> simp only [evX, reduceIte, reduceCtorEq, Nat.reduceLT, Nat.reduceAdd, Nat.reduceEqDiff, Nat.reduceBEq, Nat.reduceLeDiff, Nat.reduceMul, ttL, tyL, ht])
      (refine CallG.ok hE 9000 (hP ▸ ok_with p r.2 (by omega)) rfl rfl ?_ <;> simp only [evX, reduceIte, reduceCtorEq, Nat.reduceLT, Nat.reduceAdd, Nat.reduceEqDiff, Nat.reduceBEq, Nat.reduceLeDiff, Nat.reduceMul, ttL, tyL, ht])
      (refine StG.byX hE ht 9000 rfl rfl ?_ <;> simp only [evX, reduceIte, reduceCtorEq, Nat.reduceLT, Nat.reduceAdd, Nat.reduceEqDiff, Nat.reduceBEq, Nat.reduceLeDiff, Nat.reduceMul, ttL, tyL, ht])
      (refine StG.byX hE ht 9000 rfl rfl ?_ <;> simp only [evX, reduceIte, reduceCtorEq, Nat.reduceLT, Nat.reduceAdd, Nat.reduceEqDiff, Nat.reduceBEq, Nat.reduceLeDiff, Nat.reduceMul, ttL, tyL, ht])
      refine ⟨by kernel_rfl, ?_⟩
      rw [e]
      exact RetQ.cct (.inr rfl) (cellV rfl rfl rfl rfl rfl rfl rfl rfl rfl) (cellV rfl rfl rfl rfl rfl rfl rfl rfl rfl) rfl rfl
    · have e : passNT p q = (namedZ, namedZ, false) := by rw [passNT, passN, if_pos hd]
      (refine StG.by hE ht 9000 rfl ?_ <;> simp only [evX, reduceIte, reduceCtorEq, Nat.reduceLT, Nat.reduceAdd, Nat.reduceEqDiff, Nat.reduceBEq, Nat.reduceLeDiff, Nat.reduceMul, ttL, tyL, ht])
      (refine StG.by hE ht 9000 rfl ?_ <;> simp only [evX, reduceIte, reduceCtorEq, Nat.reduceLT, Nat.reduceAdd, Nat.reduceEqDiff, Nat.reduceBEq, Nat.reduceLeDiff, Nat.reduceMul, ttL, tyL, ht])
      rw [e]
      exact RetQ.cct (.inr rfl) (cellV rfl rfl rfl rfl rfl rfl rfl rfl rfl) (cellV rfl rfl rfl rfl rfl rfl rfl rfl rfl) rfl rfl
end Go.Proofs.YtmijejoddoolpaaGreat
