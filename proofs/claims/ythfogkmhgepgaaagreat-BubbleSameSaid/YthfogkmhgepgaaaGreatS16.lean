/- The program's functions, walked (part 16). -/
import Derived.Test.YthfogkmhgepgaaaGreatS10
import Derived.Test.YthfogkmhgepgaaaGreatS14
import Derived.Test.YthfogkmhgepgaaaGreatS15
/- Chapter 16's laws on what hangs, and what is needed. -/
namespace Go.Proofs.YthfogkmhgepgaaaGreat
open Go.Vam Go.Qm
set_option linter.unusedVariables false
set_option linter.unusedSimpArgs false
set_option maxRecDepth 8000
set_option maxHeartbeats 4000000

def aw16a : Named := ⟨⟨0, 1⟩, [], ⟨#[]⟩, [⟨0, ⟨#[97]⟩, ⟨#[]⟩, hunkZ⟩]⟩
def aw16b : Named := ⟨⟨0, 2⟩, [], ⟨#[]⟩, [⟨0, ⟨#[98]⟩, ⟨#[]⟩, hunkZ⟩]⟩
def aw16c : Named := ⟨⟨0, 3⟩, [], ⟨#[]⟩, [⟨3, ⟨#[97]⟩, ⟨#[]⟩, ⟨0, [], [⟨#[120]⟩]⟩⟩]⟩
def aw16 : List Named := [aw16a, aw16b, aw16c]
theorem aw16p : partN aw16 [⟨0, 1⟩] = ([aw16b], [aw16a, aw16c]) := by kernel_rfl
theorem aw16q : pickN aw16 [⟨0, 3⟩] = ([aw16a, aw16c], [aw16b]) := by kernel_rfl
theorem aw16_ok : ∀ p ∈ aw16, okN p := by
  have k1 := aw15_ok ⟨#[97]⟩ (by decide) 1 (by simp [i64]) [] (by simp) (by simp)
  have k2 := aw15_ok ⟨#[98]⟩ (by decide) 2 (by simp [i64]) [] (by simp) (by simp)
  intro p hp
  simp only [aw16, List.mem_cons, List.mem_nil_iff, or_false] at hp
  rcases hp with rfl | rfl | rfl
  · exact k1
  · exact k2
  · refine ⟨⟨by simp [aw16c], by simp [aw16c, Big], by simp [aw16c, primB, hunkB, Big]⟩, ⟨⟨by simp [aw16c, i64], by simp [aw16c, i64]⟩, by simp [aw16c], fun q hq => ?_⟩⟩
    simp only [aw16c, List.mem_singleton] at hq
    subst hq
    exact ⟨by simp [i64], (show strZ (⟨#[97]⟩ : Str) by decide), (show strZ (⟨#[]⟩ : Str) by decide), by simp [i64], by simp [strsZ], fun s hs => by
      simp only [List.mem_singleton] at hs
      subst hs
      exact (show strZ (⟨#[120]⟩ : Str) by decide)⟩
theorem ok_awake16 : Ok Tryz.prog 8 [] (.v (boolA true)) := by
  have hp := ok_Part aw16 [⟨0, 1⟩] (by simp [aw16]) aw16_ok (by simp)
  have hq := Px.ok_Pick aw16 [⟨0, 3⟩] (by simp [aw16]) aw16_ok (by simp)
  rw [aw16p] at hp
  rw [aw16q] at hq
  (refine Ok.code hT hM (fn := Tryz.f8) rfl rfl rfl _ _ rfl rfl (Nat.le_of_ble_eq_true rfl) fun E hE hP ht h0 hrd => ?_; refine Go.run hE 9000 ?_; simp only [Tryz.f8, evX, reduceIte, reduceCtorEq, Nat.reduceLT, Nat.reduceAdd, Nat.reduceEqDiff, Nat.reduceBEq, Nat.reduceLeDiff, Nat.reduceMul, ttL, tyL, ht])
  refine HardOp.frz hE 9000 8 rfl rfl rfl ?_
  simp only [evX, reduceIte, reduceCtorEq, Nat.reduceLT, Nat.reduceAdd, Nat.reduceEqDiff, Nat.reduceBEq, Nat.reduceLeDiff, Nat.reduceMul, ttL, tyL, ht]
  refine HardOp.frz hE 9000 12 rfl rfl rfl ?_
  simp only [evX, reduceIte, reduceCtorEq, Nat.reduceLT, Nat.reduceAdd, Nat.reduceEqDiff, Nat.reduceBEq, Nat.reduceLeDiff, Nat.reduceMul, ttL, tyL, ht]
  refine HardOp.frz hE 9000 15 rfl rfl rfl ?_
  simp only [evX, reduceIte, reduceCtorEq, Nat.reduceLT, Nat.reduceAdd, Nat.reduceEqDiff, Nat.reduceBEq, Nat.reduceLeDiff, Nat.reduceMul, ttL, tyL, ht]
  refine HardOp.frz hE 9000 18 rfl rfl rfl ?_
  simp only [evX, reduceIte, reduceCtorEq, Nat.reduceLT, Nat.reduceAdd, Nat.reduceEqDiff, Nat.reduceBEq, Nat.reduceLeDiff, Nat.reduceMul, ttL, tyL, ht]
  (refine CallG.ok hE 9000 (hP ▸ hp) rfl rfl ?_ <;> simp only [evX, reduceIte, reduceCtorEq, Nat.reduceLT, Nat.reduceAdd, Nat.reduceEqDiff, Nat.reduceBEq, Nat.reduceLeDiff, Nat.reduceMul, ttL, tyL, ht])
  (refine CallG.ok hE 9000 (hP ▸ hq) rfl rfl ?_ <;> simp only [evX, reduceIte, reduceCtorEq, Nat.reduceLT, Nat.reduceAdd, Nat.reduceEqDiff, Nat.reduceBEq, Nat.reduceLeDiff, Nat.reduceMul, ttL, tyL, ht])
  have c1 : (((1 : Nat) : Int) == 1) = true := rfl
  have c2 : (((2 : Nat) : Int) == 2) = true := rfl
  have c3 : (((3 : Nat) : Int) == 3) = true := rfl
  have c4 : (aw16b.id.no == 2) = true := rfl
  simp only [c1, c2, evX, reduceIte, reduceCtorEq, Nat.reduceLT, Nat.reduceAdd, Nat.reduceEqDiff, Nat.reduceBEq, Nat.reduceLeDiff, Nat.reduceMul, ttL, tyL, ht]
  refine IdxR.nat (i := 0) (xs := [aw16b]) hE 9000 (by simp) rfl ?_
  simp only [evX, reduceIte, reduceCtorEq, Nat.reduceLT, Nat.reduceAdd, Nat.reduceEqDiff, Nat.reduceBEq, Nat.reduceLeDiff, Nat.reduceMul, ttL, tyL, ht]
  have c5 : ([aw16b][0].id.no == 2) = true := rfl
  simp only [c5, c2, c1, evX, reduceIte, reduceCtorEq, Nat.reduceLT, Nat.reduceAdd, Nat.reduceEqDiff, Nat.reduceBEq, Nat.reduceLeDiff, Nat.reduceMul, ttL, tyL, ht]
  refine IdxR.nat (i := 0) (xs := [aw16b]) hE 9000 (by simp) rfl ?_
  simp only [evX, reduceIte, reduceCtorEq, Nat.reduceLT, Nat.reduceAdd, Nat.reduceEqDiff, Nat.reduceBEq, Nat.reduceLeDiff, Nat.reduceMul, ttL, tyL, ht]
  simp only [c5, evX, reduceIte, reduceCtorEq, Nat.reduceLT, Nat.reduceAdd, Nat.reduceEqDiff, Nat.reduceBEq, Nat.reduceLeDiff, Nat.reduceMul, ttL, tyL, ht]
  (refine CallG.ok hE 9000 (hP ▸ ok_Ids aw16 (by simp [aw16])) rfl rfl ?_ <;> simp only [evX, reduceIte, reduceCtorEq, Nat.reduceLT, Nat.reduceAdd, Nat.reduceEqDiff, Nat.reduceBEq, Nat.reduceLeDiff, Nat.reduceMul, ttL, tyL, ht])
  exact RetQ.bool (.inr rfl) rfl rfl
theorem fewN_small {l : List Named} {n : Int} (h : fewN l n = true) : smallN 524288 l := fun p hp => by
  simp only [fewN, Bool.and_eq_true, List.all_eq_true] at h
  have h2 := h.2 p hp
  simp only [lightN, Bool.and_eq_true] at h2
  have := few_len h2.1.1
  exact ⟨by omega, few_atD h2.1.1⟩
theorem any_next {l : List Qm.Id} {i : Nat} (h : i < l.length) {f : Qm.Id → Bool} : ((l.take i).any f || f l[i]) = (l.take (i + 1)).any f := by
  rw [List.take_add_one, List.getElem?_eq_getElem h, List.any_append]
  simp
end Go.Proofs.YthfogkmhgepgaaaGreat

/- Chapter 16's other laws. -/
namespace Go.Proofs.YthfogkmhgepgaaaGreat
open Go.Vam Go.Qm
set_option linter.unusedVariables false
set_option linter.unusedSimpArgs false
set_option maxRecDepth 8000
set_option maxHeartbeats 4000000

theorem nameds_B {m : List Named} (k : ∀ p ∈ m, okN p) (h : m.length * 80 ≤ Big) : namedsB m := ⟨h, fun p hp => (k p hp).b⟩
theorem findN_nn (l : List Named) (x : Qm.Id) : decide (findN l x ≥ 0) = l.any fun p => idEq p.id x := idxI_nn _ l
theorem law_BubbleTells (l : List Named) (bl : namedsB l) (rl : ∀ p ∈ l, namedR p) (ids : List Qm.Id) (bi : ids.length * 16 ≤ Big) (ri : ∀ x ∈ ids, idR x) : Ok Tryz.prog 3 [namedsA l, idsA ids] (.v (boolA true)) := by
  have kl : ∀ p ∈ l, okN p := fun p hp => ⟨bl.2 p hp, rl p hp⟩
  have hll := bl.1
  simp only [Big] at hll bi
  (refine Ok.code hT hM (fn := Tryz.f3) rfl rfl rfl _ _ rfl rfl (Nat.le_of_ble_eq_true rfl) fun E hE hP ht h0 hrd => ?_; refine Go.run hE 9000 ?_; simp only [Tryz.f3, evX, reduceIte, reduceCtorEq, Nat.reduceLT, Nat.reduceAdd, Nat.reduceEqDiff, Nat.reduceBEq, Nat.reduceLeDiff, Nat.reduceMul, ttL, tyL, ht])
  (refine CallG.ok hE 9000 (hP ▸ ok_awake16) rfl rfl ?_ <;> simp only [evX, reduceIte, reduceCtorEq, Nat.reduceLT, Nat.reduceAdd, Nat.reduceEqDiff, Nat.reduceBEq, Nat.reduceLeDiff, Nat.reduceMul, ttL, tyL, ht])
  (refine CallG.ok hE 9000 (hP ▸ ok_fewN l 8 bl) rfl rfl ?_ <;> simp only [evX, reduceIte, reduceCtorEq, Nat.reduceLT, Nat.reduceAdd, Nat.reduceEqDiff, Nat.reduceBEq, Nat.reduceLeDiff, Nat.reduceMul, ttL, tyL, ht])
  cases h1 : fewN l 8 <;> simp only [evX, reduceIte, reduceCtorEq, Nat.reduceLT, Nat.reduceAdd, Nat.reduceEqDiff, Nat.reduceBEq, Nat.reduceLeDiff, Nat.reduceMul, ttL, tyL, ht, Bool.not_false, Bool.not_true]
  · exact RetQ.bool (.inr rfl) rfl rfl
  ((first | refine SelF.byN (fun hb => ?_) (fun hb => ?_) | refine SelF.by (fun hb => ?_) (fun hb => ?_)) <;> simp only [hb, evX, reduceIte, reduceCtorEq, Nat.reduceLT, Nat.reduceAdd, Nat.reduceEqDiff, Nat.reduceBEq, Nat.reduceLeDiff, Nat.reduceMul, ttL, tyL, ht])
  · exact RetQ.bool (.inr rfl) rfl rfl
  obtain ⟨k1, k2⟩ := part_ok (ids := ids) kl
  have kle := part_len (ids := ids) l
  obtain ⟨k3, k4⟩ := Px.pick_ok (ids := ids) kl
  have kle2 := Px.pick_len (ids := ids) l
  (refine CallG.ok hE 9000 (hP ▸ ok_Part l ids (by omega) kl (by omega)) rfl rfl ?_ <;> simp only [evX, reduceIte, reduceCtorEq, Nat.reduceLT, Nat.reduceAdd, Nat.reduceEqDiff, Nat.reduceBEq, Nat.reduceLeDiff, Nat.reduceMul, ttL, tyL, ht])
  (refine CallG.ok hE 9000 (hP ▸ ok_ref16Part l ids (by omega) kl (by omega)) rfl rfl ?_ <;> simp only [evX, reduceIte, reduceCtorEq, Nat.reduceLT, Nat.reduceAdd, Nat.reduceEqDiff, Nat.reduceBEq, Nat.reduceLeDiff, Nat.reduceMul, ttL, tyL, ht])
  (refine CallG.ok hE 9000 (hP ▸ ok_ref14List (partN l ids).1 (partN l ids).1 (nameds_B k1 (by simp only [Big]; omega))) rfl rfl ?_ <;> simp only [evX, reduceIte, reduceCtorEq, Nat.reduceLT, Nat.reduceAdd, Nat.reduceEqDiff, Nat.reduceBEq, Nat.reduceLeDiff, Nat.reduceMul, ttL, tyL, ht])
  (refine CallG.ok hE 9000 (hP ▸ ok_ref14List (partN l ids).2 (partN l ids).2 (nameds_B k2 (by simp only [Big]; omega))) rfl rfl ?_ <;> simp only [evX, reduceIte, reduceCtorEq, Nat.reduceLT, Nat.reduceAdd, Nat.reduceEqDiff, Nat.reduceBEq, Nat.reduceLeDiff, Nat.reduceMul, ttL, tyL, ht])
  (refine CallG.ok hE 9000 (hP ▸ Px.ok_Pick l ids (by omega) kl (by omega)) rfl rfl ?_ <;> simp only [evX, reduceIte, reduceCtorEq, Nat.reduceLT, Nat.reduceAdd, Nat.reduceEqDiff, Nat.reduceBEq, Nat.reduceLeDiff, Nat.reduceMul, ttL, tyL, ht])
  (refine CallG.ok hE 9000 (hP ▸ ok_ref16Pick l ids (by omega) kl (by omega)) rfl rfl ?_ <;> simp only [evX, reduceIte, reduceCtorEq, Nat.reduceLT, Nat.reduceAdd, Nat.reduceEqDiff, Nat.reduceBEq, Nat.reduceLeDiff, Nat.reduceMul, ttL, tyL, ht])
  (refine CallG.ok hE 9000 (hP ▸ ok_ref14List (pickN l ids).1 (pickN l ids).1 (nameds_B k3 (by simp only [Big]; omega))) rfl rfl ?_ <;> simp only [evX, reduceIte, reduceCtorEq, Nat.reduceLT, Nat.reduceAdd, Nat.reduceEqDiff, Nat.reduceBEq, Nat.reduceLeDiff, Nat.reduceMul, ttL, tyL, ht])
  (refine CallG.ok hE 9000 (hP ▸ ok_ref14List (pickN l ids).2 (pickN l ids).2 (nameds_B k4 (by simp only [Big]; omega))) rfl rfl ?_ <;> simp only [evX, reduceIte, reduceCtorEq, Nat.reduceLT, Nat.reduceAdd, Nat.reduceEqDiff, Nat.reduceBEq, Nat.reduceLeDiff, Nat.reduceMul, ttL, tyL, ht])
  (refine CallG.ok hE 9000 (hP ▸ ok_Ids l (by omega)) rfl rfl ?_ <;> simp only [evX, reduceIte, reduceCtorEq, Nat.reduceLT, Nat.reduceAdd, Nat.reduceEqDiff, Nat.reduceBEq, Nat.reduceLeDiff, Nat.reduceMul, ttL, tyL, ht])
  (refine CallG.ok hE 9000 (hP ▸ ok_ref16Ids l (by omega)) rfl rfl ?_ <;> simp only [evX, reduceIte, reduceCtorEq, Nat.reduceLT, Nat.reduceAdd, Nat.reduceEqDiff, Nat.reduceBEq, Nat.reduceLeDiff, Nat.reduceMul, ttL, tyL, ht])
  (refine CallG.ok hE 9000 (hP ▸ ok_ref16Same (idsN l) (idsN l) (by simp [idsN]; omega)) rfl rfl ?_ <;> simp only [evX, reduceIte, reduceCtorEq, Nat.reduceLT, Nat.reduceAdd, Nat.reduceEqDiff, Nat.reduceBEq, Nat.reduceLeDiff, Nat.reduceMul, ttL, tyL, ht])
  simp only [all2_refl_of _ sameN_refl, all2_refl_of _ idEq_refl, evX, reduceIte, reduceCtorEq, Nat.reduceLT, Nat.reduceAdd, Nat.reduceEqDiff, Nat.reduceBEq, Nat.reduceLeDiff, Nat.reduceMul, ttL, tyL, ht]
  exact RetQ.bool (.inr rfl) rfl rfl
theorem law_BubbleNone (l : List Named) (bl : namedsB l) (rl : ∀ p ∈ l, namedR p) (ids : List Qm.Id) (bi : ids.length * 16 ≤ Big) (ri : ∀ x ∈ ids, idR x) : Ok Tryz.prog 6 [namedsA l, idsA ids] (.v (boolA true)) := by
  have kl : ∀ p ∈ l, okN p := fun p hp => ⟨bl.2 p hp, rl p hp⟩
  have hll := bl.1
  simp only [Big] at hll bi
  (refine Ok.code hT hM (fn := Tryz.f6) rfl rfl rfl _ _ rfl rfl (Nat.le_of_ble_eq_true rfl) fun E hE hP ht h0 hrd => ?_; refine Go.run hE 9000 ?_; simp only [Tryz.f6, evX, reduceIte, reduceCtorEq, Nat.reduceLT, Nat.reduceAdd, Nat.reduceEqDiff, Nat.reduceBEq, Nat.reduceLeDiff, Nat.reduceMul, ttL, tyL, ht])
  (refine CallG.ok hE 9000 (hP ▸ ok_awake16) rfl rfl ?_ <;> simp only [evX, reduceIte, reduceCtorEq, Nat.reduceLT, Nat.reduceAdd, Nat.reduceEqDiff, Nat.reduceBEq, Nat.reduceLeDiff, Nat.reduceMul, ttL, tyL, ht])
  (refine CallG.ok hE 9000 (hP ▸ ok_fewN l 8 bl) rfl rfl ?_ <;> simp only [evX, reduceIte, reduceCtorEq, Nat.reduceLT, Nat.reduceAdd, Nat.reduceEqDiff, Nat.reduceBEq, Nat.reduceLeDiff, Nat.reduceMul, ttL, tyL, ht])
  cases h1 : fewN l 8 <;> simp only [evX, reduceIte, reduceCtorEq, Nat.reduceLT, Nat.reduceAdd, Nat.reduceEqDiff, Nat.reduceBEq, Nat.reduceLeDiff, Nat.reduceMul, ttL, tyL, ht, Bool.not_false, Bool.not_true]
  · exact RetQ.bool (.inr rfl) rfl rfl
  ((first | refine SelF.byN (fun hb => ?_) (fun hb => ?_) | refine SelF.by (fun hb => ?_) (fun hb => ?_)) <;> simp only [hb, evX, reduceIte, reduceCtorEq, Nat.reduceLT, Nat.reduceAdd, Nat.reduceEqDiff, Nat.reduceBEq, Nat.reduceLeDiff, Nat.reduceMul, ttL, tyL, ht])
  · exact RetQ.bool (.inr rfl) rfl rfl
  refine Loop.by hE (ι := {i : Nat // i ≤ ids.length ∧ ∀ x ∈ ids.take i, (l.any fun p => idEq p.id x) = false}) (fun i => ⟨60, [(0, namedsA l), (1, idsA ids), (7, intA (i.1 : Int))], [], [], []⟩) (fun i => ids.length - i.1) ⟨0, by simp⟩ 9000 ⟨[], Wk.of rfl (by simp) (by rw [h0]; trivial) (by simp [wkT, okA, wkP, cloE, Vam.look]) (by simp [wkBs]) (by simp) (by simp)⟩ (by simp [h0]) ?_
  rintro ⟨i, hi, hall⟩
  simp only [evX, reduceIte, reduceCtorEq, Nat.reduceLT, Nat.reduceAdd, Nat.reduceEqDiff, Nat.reduceBEq, Nat.reduceLeDiff, Nat.reduceMul, ttL, tyL, ht]
  ((first | refine SelF.byN (fun hb => ?_) (fun hb => ?_) | refine SelF.by (fun hb => ?_) (fun hb => ?_)) <;> simp only [hb, evX, reduceIte, reduceCtorEq, Nat.reduceLT, Nat.reduceAdd, Nat.reduceEqDiff, Nat.reduceBEq, Nat.reduceLeDiff, Nat.reduceMul, ttL, tyL, ht])
  · simp only [decide_eq_true_eq] at hb
    have hlt : i < ids.length := by omega
    refine IdxR.nat hE 9000 hlt rfl ?_
    simp only [evX, reduceIte, reduceCtorEq, Nat.reduceLT, Nat.reduceAdd, Nat.reduceEqDiff, Nat.reduceBEq, Nat.reduceLeDiff, Nat.reduceMul, ttL, tyL, ht]
    (refine CallG.ok hE 9000 (hP ▸ ok_Find l ids[i] (by omega)) rfl rfl ?_ <;> simp only [evX, reduceIte, reduceCtorEq, Nat.reduceLT, Nat.reduceAdd, Nat.reduceEqDiff, Nat.reduceBEq, Nat.reduceLeDiff, Nat.reduceMul, ttL, tyL, ht])
    ((first | refine SelF.byN (fun hb => ?_) (fun hb => ?_) | refine SelF.by (fun hb => ?_) (fun hb => ?_)) <;> simp only [hb, evX, reduceIte, reduceCtorEq, Nat.reduceLT, Nat.reduceAdd, Nat.reduceEqDiff, Nat.reduceBEq, Nat.reduceLeDiff, Nat.reduceMul, ttL, tyL, ht])
    · exact RetQ.bool (.inr rfl) rfl rfl
    · rw [findN_nn] at hb
      refine ⟨⟨i + 1, by omega, fun x hx => ?_⟩, [], Wk.of rfl (by simp) (by rw [h0]; trivial) (by simp [wkT, okA, wkP, cloE, Vam.look, wrapN i (by omega)]) (by simp [wkBs]) (by simp) (by simp), by simp only; omega⟩
      rw [List.take_add_one, List.getElem?_eq_getElem hlt] at hx
      simp only [Option.toList_some, List.mem_append, List.mem_singleton] at hx
      rcases hx with hx | rfl
      · exact hall x hx
      · exact hb
  · have hi' : i = ids.length := by simp at hb; omega
    subst hi'
    rw [List.take_length] at hall
    have hn : ∀ p ∈ l, inIds ids p = false := fun p hp => by
      cases h : inIds ids p with
      | false => rfl
      | true =>
        exfalso
        have h2 := hall _ (inIds_iff.1 h)
        rw [List.any_eq_false] at h2
        exact h2 p hp (idEq_refl _)
    have e1 := ok_Part l ids (by omega) kl (by omega)
    have e2 := Px.ok_Pick l ids (by omega) kl (by omega)
    rw [part_none hn] at e1
    rw [pick_none hn] at e2
    (refine CallG.ok hE 9000 (hP ▸ e1) rfl rfl ?_ <;> simp only [evX, reduceIte, reduceCtorEq, Nat.reduceLT, Nat.reduceAdd, Nat.reduceEqDiff, Nat.reduceBEq, Nat.reduceLeDiff, Nat.reduceMul, ttL, tyL, ht])
    (refine CallG.ok hE 9000 (hP ▸ e2) rfl rfl ?_ <;> simp only [evX, reduceIte, reduceCtorEq, Nat.reduceLT, Nat.reduceAdd, Nat.reduceEqDiff, Nat.reduceBEq, Nat.reduceLeDiff, Nat.reduceMul, ttL, tyL, ht])
    have c0 : (((0 : Nat) : Int) == 0) = true := rfl
    simp only [List.map_nil, List.length_nil, c0, evX, reduceIte, reduceCtorEq, Nat.reduceLT, Nat.reduceAdd, Nat.reduceEqDiff, Nat.reduceBEq, Nat.reduceLeDiff, Nat.reduceMul, ttL, tyL, ht]
    exact RetQ.bool (.inr rfl) rfl rfl
end Go.Proofs.YthfogkmhgepgaaaGreat
