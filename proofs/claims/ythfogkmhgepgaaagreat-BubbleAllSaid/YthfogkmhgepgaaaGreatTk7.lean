/- Chapter 16's last laws. -/
import Derived.Test.YthfogkmhgepgaaaGreatS16
namespace Go.Proofs.YthfogkmhgepgaaaGreat
open Go.Vam Go.Qm
set_option linter.unusedVariables false
set_option linter.unusedSimpArgs false
set_option maxRecDepth 8000
set_option maxHeartbeats 4000000

theorem nodup_next {l : List Named} {i : Nat} (h : i < l.length) (hn : (idsN (l.take i)).Nodup) (ha : ((l.take i).any fun p => idEq p.id l[i].id) = false) : (idsN (l.take (i + 1))).Nodup := by
  rw [List.take_add_one, List.getElem?_eq_getElem h, idsN_append, List.nodup_append]
  refine ⟨hn, by simp [idsN], fun x hx y hy => ?_⟩
  simp [idsN] at hy
  subst hy
  intro e
  subst e
  simp only [idsN, List.mem_map] at hx
  obtain ⟨p, hp, hpe⟩ := hx
  rw [List.any_eq_false] at ha
  exact ha p hp (by rw [hpe]; exact idEq_refl _)
theorem law_BubbleStays (l : List Named) (bl : namedsB l) (rl : ∀ p ∈ l, namedR p) (ids : List Qm.Id) (bi : ids.length * 16 ≤ Big) (ri : ∀ x ∈ ids, idR x) : Ok Tryz.prog 5 [namedsA l, idsA ids] (.v (boolA true)) := by
  have kl : ∀ p ∈ l, okN p := fun p hp => ⟨bl.2 p hp, rl p hp⟩
  have hll := bl.1
  simp only [Big] at hll bi
  (refine Ok.code hT hM (fn := Tryz.f5) rfl rfl rfl _ _ rfl rfl (Nat.le_of_ble_eq_true rfl) fun E hE hP ht h0 hrd => ?_; refine Go.run hE 9000 ?_; simp only [Tryz.f5, evX, reduceIte, reduceCtorEq, Nat.reduceLT, Nat.reduceAdd, Nat.reduceEqDiff, Nat.reduceBEq, Nat.reduceLeDiff, Nat.reduceMul, ttL, tyL, ht])
  (refine CallG.ok hE 9000 (hP ▸ ok_awake16) rfl rfl ?_ <;> simp only [evX, reduceIte, reduceCtorEq, Nat.reduceLT, Nat.reduceAdd, Nat.reduceEqDiff, Nat.reduceBEq, Nat.reduceLeDiff, Nat.reduceMul, ttL, tyL, ht])
  (refine CallG.ok hE 9000 (hP ▸ ok_fewN l 8 bl) rfl rfl ?_ <;> simp only [evX, reduceIte, reduceCtorEq, Nat.reduceLT, Nat.reduceAdd, Nat.reduceEqDiff, Nat.reduceBEq, Nat.reduceLeDiff, Nat.reduceMul, ttL, tyL, ht])
  cases h1 : fewN l 8 <;> simp only [evX, reduceIte, reduceCtorEq, Nat.reduceLT, Nat.reduceAdd, Nat.reduceEqDiff, Nat.reduceBEq, Nat.reduceLeDiff, Nat.reduceMul, ttL, tyL, ht, Bool.not_false, Bool.not_true]
  · exact RetQ.bool (.inr rfl) rfl rfl
  ((first | refine SelF.byN (fun hb => ?_) (fun hb => ?_) | refine SelF.by (fun hb => ?_) (fun hb => ?_)) <;> simp only [hb, evX, reduceIte, reduceCtorEq, Nat.reduceLT, Nat.reduceAdd, Nat.reduceEqDiff, Nat.reduceBEq, Nat.reduceLeDiff, Nat.reduceMul, ttL, tyL, ht])
  · exact RetQ.bool (.inr rfl) rfl rfl
  refine Loop.by hE (ι := {i : Nat // i ≤ l.length ∧ (idsN (l.take i)).Nodup}) (fun i => ⟨88, [(0, namedsA l), (1, idsA ids), (7, intA (i.1 : Int))], [], [], []⟩) (fun i => l.length - i.1) ⟨0, by simp [idsN]⟩ 9000 ⟨[], Wk.of rfl (by simp) (by rw [h0]; trivial) (by simp [wkT, okA, wkP, cloE, Vam.look]) (by simp [wkBs]) (by simp) (by simp)⟩ (by simp [h0]) ?_
  rintro ⟨i, hi, hall⟩
  simp only [evX, reduceIte, reduceCtorEq, Nat.reduceLT, Nat.reduceAdd, Nat.reduceEqDiff, Nat.reduceBEq, Nat.reduceLeDiff, Nat.reduceMul, ttL, tyL, ht]
  ((first | refine SelF.byN (fun hb => ?_) (fun hb => ?_) | refine SelF.by (fun hb => ?_) (fun hb => ?_)) <;> simp only [hb, evX, reduceIte, reduceCtorEq, Nat.reduceLT, Nat.reduceAdd, Nat.reduceEqDiff, Nat.reduceBEq, Nat.reduceLeDiff, Nat.reduceMul, ttL, tyL, ht])
  · simp only [decide_eq_true_eq] at hb
    have hlt : i < l.length := by omega
    refine SlcR.by hE 9000 (by simp [rowLen]) (by simp) (by simp) (by simp; omega) ?_
    simp only [evX, reduceIte, reduceCtorEq, Nat.reduceLT, Nat.reduceAdd, Nat.reduceEqDiff, Nat.reduceBEq, Nat.reduceLeDiff, Nat.reduceMul, ttL, tyL, ht]
    refine IdxR.nat hE 9000 hlt rfl ?_
    simp only [evX, reduceIte, reduceCtorEq, Nat.reduceLT, Nat.reduceAdd, Nat.reduceEqDiff, Nat.reduceBEq, Nat.reduceLeDiff, Nat.reduceMul, ttL, tyL, ht]
    rw [show List.drop (Int.toNat 0) (List.take ((i : Int)).toNat (namedsC l)) = namedsC (l.take i) by rw [Int.toNat_natCast, Int.toNat_zero, List.drop_zero]; exact List.map_take.symm]
    (refine CallG.ok hE 9000 (hP ▸ ok_Find (l.take i) l[i].id (by simp; omega)) rfl rfl ?_ <;> simp only [evX, reduceIte, reduceCtorEq, Nat.reduceLT, Nat.reduceAdd, Nat.reduceEqDiff, Nat.reduceBEq, Nat.reduceLeDiff, Nat.reduceMul, ttL, tyL, ht])
    refine ⟨by kernel_rfl, ?_⟩
    ((first | refine SelF.byN (fun hb => ?_) (fun hb => ?_) | refine SelF.by (fun hb => ?_) (fun hb => ?_)) <;> simp only [hb, evX, reduceIte, reduceCtorEq, Nat.reduceLT, Nat.reduceAdd, Nat.reduceEqDiff, Nat.reduceBEq, Nat.reduceLeDiff, Nat.reduceMul, ttL, tyL, ht])
    · exact RetQ.bool (.inr rfl) rfl rfl
    · rw [findN_nn] at hb
      refine ⟨⟨i + 1, by omega, nodup_next hlt hall hb⟩, [], Wk.of rfl (by simp) (by rw [h0]; trivial) (by simp [wkT, okA, wkP, cloE, Vam.look, wrapN i (by omega)]) (by simp [wkBs]) (by simp) (by simp), by simp only; omega⟩
  · have hi' : i = l.length := by simp at hb; omega
    subst hi'
    rw [List.take_length] at hall
    obtain ⟨k1, k2⟩ := part_ok (ids := ids) kl
    have kle := part_len (ids := ids) l
    have e1 := ok_Part l ids (by omega) kl (by omega)
    have e2 := ok_Part (partN l ids).1 ids (by omega) k1 (by omega)
    rw [part_none (part_stay l)] at e2
    have e3 := ok_Part l (idsN (partN l ids).2) (by omega) kl (by simp [idsN]; omega)
    rw [part_again hall] at e3
    have e4 := ok_ref14List (partN l ids).1 (partN l ids).1 (nameds_B k1 (by simp only [Big]; omega))
    have e5 := ok_ref14List (partN l ids).2 (partN l ids).2 (nameds_B k2 (by simp only [Big]; omega))
    rw [all2_refl_of _ sameN_refl] at e4 e5
    (refine CallG.ok hE 9000 (hP ▸ e1) rfl rfl ?_ <;> simp only [evX, reduceIte, reduceCtorEq, Nat.reduceLT, Nat.reduceAdd, Nat.reduceEqDiff, Nat.reduceBEq, Nat.reduceLeDiff, Nat.reduceMul, ttL, tyL, ht])
    (refine CallG.ok hE 9000 (hP ▸ e2) rfl rfl ?_ <;> simp only [evX, reduceIte, reduceCtorEq, Nat.reduceLT, Nat.reduceAdd, Nat.reduceEqDiff, Nat.reduceBEq, Nat.reduceLeDiff, Nat.reduceMul, ttL, tyL, ht])
    (refine CallG.ok hE 9000 (hP ▸ ok_Ids (partN l ids).2 (by omega)) rfl rfl ?_ <;> simp only [evX, reduceIte, reduceCtorEq, Nat.reduceLT, Nat.reduceAdd, Nat.reduceEqDiff, Nat.reduceBEq, Nat.reduceLeDiff, Nat.reduceMul, ttL, tyL, ht])
    (refine CallG.ok hE 9000 (hP ▸ e3) rfl rfl ?_ <;> simp only [evX, reduceIte, reduceCtorEq, Nat.reduceLT, Nat.reduceAdd, Nat.reduceEqDiff, Nat.reduceBEq, Nat.reduceLeDiff, Nat.reduceMul, ttL, tyL, ht])
    (refine CallG.ok hE 9000 (hP ▸ e4) rfl rfl ?_ <;> simp only [evX, reduceIte, reduceCtorEq, Nat.reduceLT, Nat.reduceAdd, Nat.reduceEqDiff, Nat.reduceBEq, Nat.reduceLeDiff, Nat.reduceMul, ttL, tyL, ht])
    (refine CallG.ok hE 9000 (hP ▸ e4) rfl rfl ?_ <;> simp only [evX, reduceIte, reduceCtorEq, Nat.reduceLT, Nat.reduceAdd, Nat.reduceEqDiff, Nat.reduceBEq, Nat.reduceLeDiff, Nat.reduceMul, ttL, tyL, ht])
    (refine CallG.ok hE 9000 (hP ▸ e5) rfl rfl ?_ <;> simp only [evX, reduceIte, reduceCtorEq, Nat.reduceLT, Nat.reduceAdd, Nat.reduceEqDiff, Nat.reduceBEq, Nat.reduceLeDiff, Nat.reduceMul, ttL, tyL, ht])
    exact RetQ.bool (.inr rfl) rfl rfl
theorem part_keep {K : Named → Prop} (hK : ∀ p q x y, K p → K q → passN p q = some (x, y) → K x ∧ K y) {ids : List Qm.Id} {l : List Named} (kl : ∀ p ∈ l, K p) : ∀ x ∈ (partN l ids).1 ++ (partN l ids).2, K x := by
  have step : ∀ (s : List Named × List Named) (p : Named), (∀ x ∈ s.1, K x) → (∀ x ∈ s.2, K x) → K p → (∀ x ∈ (partS ids s p).1, K x) ∧ ∀ x ∈ (partS ids s p).2, K x := by
    intro s p h1 h2 hp
    have hb : ∀ x ∈ s.2 ++ [p], K x := fun x hx => by
      rcases List.mem_append.1 hx with h | h
      · exact h2 x h
      · simp only [List.mem_singleton] at h; subst h; exact hp
    unfold partS
    split
    · exact ⟨h1, hb⟩
    · split
      · rename_i x m e
        obtain ⟨k1, k2⟩ := overN_keep hK e h2 hp
        refine ⟨fun z hz => ?_, k2⟩
        rcases List.mem_append.1 hz with h | h
        · exact h1 z h
        · simp only [List.mem_singleton] at h; subst h; exact k1
      · exact ⟨h1, hb⟩
  have key : ∀ (l : List Named) (s : List Named × List Named), (∀ x ∈ s.1, K x) → (∀ x ∈ s.2, K x) → (∀ p ∈ l, K p) → (∀ x ∈ (l.foldl (partS ids) s).1, K x) ∧ ∀ x ∈ (l.foldl (partS ids) s).2, K x := by
    intro l
    induction l with
    | nil => intro s h1 h2 _; exact ⟨h1, h2⟩
    | cons p l ih =>
      intro s h1 h2 h3
      obtain ⟨k1, k2⟩ := step s p h1 h2 (h3 p (by simp))
      exact ih _ k1 k2 fun x hx => h3 x (by simp [hx])
  obtain ⟨k1, k2⟩ := key l ([], []) (by simp) (by simp) kl
  exact fun x hx => (List.mem_append.1 hx).elim (k1 x) (k2 x)
theorem pick_keep {K : Named → Prop} (hK : ∀ p q x y, K p → K q → passN p q = some (x, y) → K x ∧ K y) {ids : List Qm.Id} {l : List Named} (kl : ∀ p ∈ l, K p) : ∀ x ∈ (pickN l ids).1 ++ (pickN l ids).2, K x := by
  have key : (∀ x ∈ (pickN l ids).1, K x) ∧ ∀ x ∈ (pickN l ids).2, K x := by
    induction l with
    | nil => simp [pickN]
    | cons p l ih =>
      obtain ⟨i1, i2⟩ := ih fun x hx => kl x (by simp [hx])
      have kp := kl p (by simp)
      show (∀ x ∈ (pickS ids p (pickN l ids)).1, K x) ∧ ∀ x ∈ (pickS ids p (pickN l ids)).2, K x
      have hc : ∀ x ∈ p :: (pickN l ids).1, K x := fun x hx => by
        rcases List.mem_cons.1 hx with rfl | hx
        · exact kp
        · exact i1 x hx
      unfold pickS
      split
      · exact ⟨hc, i2⟩
      · split
        · rename_i m x e
          obtain ⟨k1, k2⟩ := Px.pastN_keep hK e i1 kp
          refine ⟨k2, fun z hz => ?_⟩
          rcases List.mem_cons.1 hz with rfl | hz
          · exact k1
          · exact i2 z hz
        · exact ⟨hc, i2⟩
  exact fun x hx => (List.mem_append.1 hx).elim (key.1 x) (key.2 x)
theorem short_pass (p q x y : Named) (hp : p.l.length ≤ 10) (hq : q.l.length ≤ 10) (h : passN p q = some (x, y)) : x.l.length ≤ 10 ∧ y.l.length ≤ 10 := by
  obtain ⟨_, _, _, k1, _, _, _, k2⟩ := passN_same h
  exact ⟨by omega, by omega⟩
theorem law_BubbleSame (t : List File) (bt : treeB t) (l : List Named) (bl : namedsB l) (rl : ∀ p ∈ l, namedR p) (ids : List Qm.Id) (bi : ids.length * 16 ≤ Big) (ri : ∀ x ∈ ids, idR x) : Ok Tryz.prog 7 [treeA t, namedsA l, idsA ids] (.v (boolA true)) := by
  have kl : ∀ p ∈ l, okN p := fun p hp => ⟨bl.2 p hp, rl p hp⟩
  have hll := bl.1
  simp only [Big] at hll bi
  (refine Ok.code hT hM (fn := Tryz.f7) rfl rfl rfl _ _ rfl rfl (Nat.le_of_ble_eq_true rfl) fun E hE hP ht h0 hrd => ?_; refine Go.run hE 9000 ?_; simp only [Tryz.f7, evX, reduceIte, reduceCtorEq, Nat.reduceLT, Nat.reduceAdd, Nat.reduceEqDiff, Nat.reduceBEq, Nat.reduceLeDiff, Nat.reduceMul, ttL, tyL, ht])
  (refine CallG.ok hE 9000 (hP ▸ ok_awake16) rfl rfl ?_ <;> simp only [evX, reduceIte, reduceCtorEq, Nat.reduceLT, Nat.reduceAdd, Nat.reduceEqDiff, Nat.reduceBEq, Nat.reduceLeDiff, Nat.reduceMul, ttL, tyL, ht])
  (refine CallG.ok hE 9000 (hP ▸ ok_lightT t bt) rfl rfl ?_ <;> simp only [evX, reduceIte, reduceCtorEq, Nat.reduceLT, Nat.reduceAdd, Nat.reduceEqDiff, Nat.reduceBEq, Nat.reduceLeDiff, Nat.reduceMul, ttL, tyL, ht])
  (refine CallG.ok hE 9000 (hP ▸ ok_fewN l 8 bl) rfl rfl ?_ <;> simp only [evX, reduceIte, reduceCtorEq, Nat.reduceLT, Nat.reduceAdd, Nat.reduceEqDiff, Nat.reduceBEq, Nat.reduceLeDiff, Nat.reduceMul, ttL, tyL, ht])
  cases h1 : treeLight t <;> simp only [evX, reduceIte, reduceCtorEq, Nat.reduceLT, Nat.reduceAdd, Nat.reduceEqDiff, Nat.reduceBEq, Nat.reduceLeDiff, Nat.reduceMul, ttL, tyL, ht, Bool.not_false, Bool.not_true]
  · exact RetQ.bool (.inr rfl) rfl rfl
  cases h2 : fewN l 8 <;> simp only [evX, reduceIte, reduceCtorEq, Nat.reduceLT, Nat.reduceAdd, Nat.reduceEqDiff, Nat.reduceBEq, Nat.reduceLeDiff, Nat.reduceMul, ttL, tyL, ht, Bool.not_false, Bool.not_true]
  · exact RetQ.bool (.inr rfl) rfl rfl
  ((first | refine SelF.byN (fun hb => ?_) (fun hb => ?_) | refine SelF.by (fun hb => ?_) (fun hb => ?_)) <;> simp only [hb, evX, reduceIte, reduceCtorEq, Nat.reduceLT, Nat.reduceAdd, Nat.reduceEqDiff, Nat.reduceBEq, Nat.reduceLeDiff, Nat.reduceMul, ttL, tyL, ht])
  rotate_left
  · exact RetQ.bool (.inr rfl) rfl rfl
  (refine CallG.ok hE 9000 (hP ▸ ok_treeMay t bt) rfl rfl ?_ <;> simp only [evX, reduceIte, reduceCtorEq, Nat.reduceLT, Nat.reduceAdd, Nat.reduceEqDiff, Nat.reduceBEq, Nat.reduceLeDiff, Nat.reduceMul, ttL, tyL, ht])
  cases h3 : treeMay t <;> simp only [evX, reduceIte, reduceCtorEq, Nat.reduceLT, Nat.reduceAdd, Nat.reduceEqDiff, Nat.reduceBEq, Nat.reduceLeDiff, Nat.reduceMul, ttL, tyL, ht, Bool.not_false, Bool.not_true]
  · exact RetQ.bool (.inr rfl) rfl rfl
  have nt := light_N bt h1
  have ll := fewN_len h2
  have lla := fewN_all h2
  (refine CallG.ok hE 9000 (hP ▸ ok_patchApply t l nt bl rl (by omega) (by decide) (by decide)) rfl rfl ?_ <;> simp only [evX, reduceIte, reduceCtorEq, Nat.reduceLT, Nat.reduceAdd, Nat.reduceEqDiff, Nat.reduceBEq, Nat.reduceLeDiff, Nat.reduceMul, ttL, tyL, ht])
  ((first | refine SelF.byN (fun hb => ?_) (fun hb => ?_) | refine SelF.by (fun hb => ?_) (fun hb => ?_)) <;> simp only [hb, evX, reduceIte, reduceCtorEq, Nat.reduceLT, Nat.reduceAdd, Nat.reduceEqDiff, Nat.reduceBEq, Nat.reduceLeDiff, Nat.reduceMul, ttL, tyL, ht])
  · exact RetQ.bool (.inr rfl) rfl rfl
  · have h6 : (runL t (allN l)).2 = 0 := by simpa using hb
    obtain ⟨k1, k2⟩ := part_ok (ids := ids) kl
    have kle := part_len (ids := ids) l
    obtain ⟨k3, k4⟩ := Px.pick_ok (ids := ids) kl
    have kle2 := Px.pick_len (ids := ids) l
    have kp : ∀ x ∈ (partN l ids).1 ++ (partN l ids).2, okN x := fun x hx => (List.mem_append.1 hx).elim (k1 x) (k2 x)
    have kq : ∀ x ∈ (pickN l ids).1 ++ (pickN l ids).2, okN x := fun x hx => (List.mem_append.1 hx).elim (k3 x) (k4 x)
    (refine CallG.ok hE 9000 (hP ▸ ok_Part l ids (by omega) kl (by omega)) rfl rfl ?_ <;> simp only [evX, reduceIte, reduceCtorEq, Nat.reduceLT, Nat.reduceAdd, Nat.reduceEqDiff, Nat.reduceBEq, Nat.reduceLeDiff, Nat.reduceMul, ttL, tyL, ht])
    (refine CallG.ok hE 9000 (hP ▸ Px.ok_Pick l ids (by omega) kl (by omega)) rfl rfl ?_ <;> simp only [evX, reduceIte, reduceCtorEq, Nat.reduceLT, Nat.reduceAdd, Nat.reduceEqDiff, Nat.reduceBEq, Nat.reduceLeDiff, Nat.reduceMul, ttL, tyL, ht])
    refine AppG.by hE 9000 rfl rfl (by simp [rowLen]) (by simp; omega) ?_
    simp only [evX, reduceIte, reduceCtorEq, Nat.reduceLT, Nat.reduceAdd, Nat.reduceEqDiff, Nat.reduceBEq, Nat.reduceLeDiff, Nat.reduceMul, ttL, tyL, ht]
    refine AppG.by hE 9000 rfl rfl (by simp [rowLen]) (by simp; omega) ?_
    simp only [evX, reduceIte, reduceCtorEq, Nat.reduceLT, Nat.reduceAdd, Nat.reduceEqDiff, Nat.reduceBEq, Nat.reduceLeDiff, Nat.reduceMul, ttL, tyL, ht]
    have e1 := part_run (ids := ids) (treeMay_srt h3) h6
    have e2 := pick_run (ids := ids) (treeMay_srt h3) h6
    have hl1 : (allN ((partN l ids).1 ++ (partN l ids).2)).length ≤ 200000 := by
      have := allN_len (part_keep (ids := ids) short_pass (fewN_mem h2))
      simp only [List.length_append] at this
      omega
    have hl2 : (allN ((pickN l ids).1 ++ (pickN l ids).2)).length ≤ 200000 := by
      have := allN_len (pick_keep (ids := ids) short_pass (fewN_mem h2))
      simp only [List.length_append] at this
      omega
    have hB : treeB (runL t (allN l)).1 := (runL_N nt (allN_R rl)).B (Nat.le_trans (m := 1000 * 40) (Nat.mul_le_mul_right _ (by omega)) (by decide)) (Nat.le_trans (m := 100000 * 16) (Nat.mul_le_mul_right _ (by omega)) (by decide))
    have c1 := ok_patchApply t ((partN l ids).1 ++ (partN l ids).2) nt (nameds_B kp (by simp only [List.length_append, Big]; omega)) (fun p hp => (kp p hp).r) hl1 (by decide) (by decide)
    have c2 := ok_patchApply t ((pickN l ids).1 ++ (pickN l ids).2) nt (nameds_B kq (by simp only [List.length_append, Big]; omega)) (fun p hp => (kq p hp).r) hl2 (by decide) (by decide)
    rw [e1, h6] at c1
    rw [e2, h6] at c2
    have a1 : namedsC (partN l ids).1 ++ namedsC (partN l ids).2 = namedsC ((partN l ids).1 ++ (partN l ids).2) := List.map_append.symm
    have a2 : namedsC (pickN l ids).1 ++ namedsC (pickN l ids).2 = namedsC ((pickN l ids).1 ++ (pickN l ids).2) := List.map_append.symm
    rw [a1]
    (refine CallG.ok hE 9000 (hP ▸ c1) rfl rfl ?_ <;> simp only [evX, reduceIte, reduceCtorEq, Nat.reduceLT, Nat.reduceAdd, Nat.reduceEqDiff, Nat.reduceBEq, Nat.reduceLeDiff, Nat.reduceMul, ttL, tyL, ht])
    refine AppG.by hE 9000 rfl rfl (by simp [rowLen]) (by simp; omega) ?_
    simp only [evX, reduceIte, reduceCtorEq, Nat.reduceLT, Nat.reduceAdd, Nat.reduceEqDiff, Nat.reduceBEq, Nat.reduceLeDiff, Nat.reduceMul, ttL, tyL, ht]
    refine AppG.by hE 9000 rfl rfl (by simp [rowLen]) (by simp; omega) ?_
    simp only [evX, reduceIte, reduceCtorEq, Nat.reduceLT, Nat.reduceAdd, Nat.reduceEqDiff, Nat.reduceBEq, Nat.reduceLeDiff, Nat.reduceMul, ttL, tyL, ht]
    rw [a2]
    (refine CallG.ok hE 9000 (hP ▸ c2) rfl rfl ?_ <;> simp only [evX, reduceIte, reduceCtorEq, Nat.reduceLT, Nat.reduceAdd, Nat.reduceEqDiff, Nat.reduceBEq, Nat.reduceLeDiff, Nat.reduceMul, ttL, tyL, ht])
    have c0 : ((0 : Int) == 0) = true := rfl
    try simp only [c0, evX, reduceIte, reduceCtorEq, Nat.reduceLT, Nat.reduceAdd, Nat.reduceEqDiff, Nat.reduceBEq, Nat.reduceLeDiff, Nat.reduceMul, ttL, tyL, ht]
    (refine CallG.ok hE 9000 (hP ▸ ok_treeSame (runL t (allN l)).1 (runL t (allN l)).1 hB) rfl rfl ?_ <;> simp only [evX, reduceIte, reduceCtorEq, Nat.reduceLT, Nat.reduceAdd, Nat.reduceEqDiff, Nat.reduceBEq, Nat.reduceLeDiff, Nat.reduceMul, ttL, tyL, ht])
    try simp only [treeEq_refl, evX, reduceIte, reduceCtorEq, Nat.reduceLT, Nat.reduceAdd, Nat.reduceEqDiff, Nat.reduceBEq, Nat.reduceLeDiff, Nat.reduceMul, ttL, tyL, ht]
    (refine CallG.ok hE 9000 (hP ▸ ok_treeSame (runL t (allN l)).1 (runL t (allN l)).1 hB) rfl rfl ?_ <;> simp only [evX, reduceIte, reduceCtorEq, Nat.reduceLT, Nat.reduceAdd, Nat.reduceEqDiff, Nat.reduceBEq, Nat.reduceLeDiff, Nat.reduceMul, ttL, tyL, ht])
    exact RetQ.bool (.inr rfl) rfl (treeEq_refl _)
def isN (l : List Named) (x : Qm.Id) : Bool := l.any fun p => idEq p.id x
theorem isN_iff {l : List Named} {x : Qm.Id} : isN l x = true ↔ x ∈ idsN l := by
  rw [isN, List.any_eq_true]
  constructor
  · rintro ⟨p, hp, h⟩
    exact List.mem_map.2 ⟨p, hp, idEq_iff.1 h⟩
  · intro h
    obtain ⟨p, hp, h⟩ := List.mem_map.1 h
    exact ⟨p, hp, idEq_iff.2 h⟩
theorem part_once {ids : List Qm.Id} {l : List Named} (hn : (idsN l).Nodup) {p : Named} (hp : p ∈ l) : (isN (partN l ids).1 p.id == isN (partN l ids).2 p.id) = false ∧ (inIds ids p = true → isN (partN l ids).2 p.id = true) := by
  have hm : p.id ∈ idsN ((partN l ids).1 ++ (partN l ids).2) := (part_perm ids l).mem_iff.2 (List.mem_map.2 ⟨p, hp, rfl⟩)
  have hn2 := (part_perm ids l).nodup_iff.2 hn
  rw [idsN_append] at hm hn2
  rw [List.nodup_append] at hn2
  have hst := part_stay (ids := ids) l
  have key : p.id ∈ idsN (partN l ids).1 → inIds ids p = false := fun h => by
    obtain ⟨x, hx, he⟩ := List.mem_map.1 h
    have := hst x hx
    simpa [inIds, he] using this
  rcases List.mem_append.1 hm with h | h
  · have h2 : p.id ∉ idsN (partN l ids).2 := fun h2 => hn2.2.2 _ h _ h2 rfl
    refine ⟨by rw [isN_iff.2 h, Bool.eq_false_iff.2 fun e => h2 (isN_iff.1 e)]; rfl, fun hi => ?_⟩
    rw [key h] at hi; cases hi
  · have h2 : p.id ∉ idsN (partN l ids).1 := fun h2 => hn2.2.2 _ h2 _ h rfl
    exact ⟨by rw [isN_iff.2 h, Bool.eq_false_iff.2 fun e => h2 (isN_iff.1 e)]; rfl, fun _ => isN_iff.2 h⟩
theorem pick_once {ids : List Qm.Id} {l : List Named} (hn : (idsN l).Nodup) {p : Named} (hp : p ∈ l) : (isN (pickN l ids).1 p.id == isN (pickN l ids).2 p.id) = false ∧ (inIds ids p = true → isN (pickN l ids).1 p.id = true) := by
  have hm : p.id ∈ idsN ((pickN l ids).1 ++ (pickN l ids).2) := (pick_perm ids l).mem_iff.2 (List.mem_map.2 ⟨p, hp, rfl⟩)
  have hn2 := (pick_perm ids l).nodup_iff.2 hn
  rw [idsN_append] at hm hn2
  rw [List.nodup_append] at hn2
  have hst := pick_rest (ids := ids) l
  have key : p.id ∈ idsN (pickN l ids).2 → inIds ids p = false := fun h => by
    obtain ⟨x, hx, he⟩ := List.mem_map.1 h
    have := hst x hx
    simpa [inIds, he] using this
  rcases List.mem_append.1 hm with h | h
  · have h2 : p.id ∉ idsN (pickN l ids).2 := fun h2 => hn2.2.2 _ h _ h2 rfl
    exact ⟨by rw [isN_iff.2 h, Bool.eq_false_iff.2 fun e => h2 (isN_iff.1 e)]; rfl, fun _ => isN_iff.2 h⟩
  · have h2 : p.id ∉ idsN (pickN l ids).1 := fun h2 => hn2.2.2 _ h2 _ h rfl
    refine ⟨by rw [isN_iff.2 h, Bool.eq_false_iff.2 fun e => h2 (isN_iff.1 e)]; rfl, fun hi => ?_⟩
    rw [key h] at hi; cases hi
theorem law_BubbleAll (l : List Named) (bl : namedsB l) (rl : ∀ p ∈ l, namedR p) (ids : List Qm.Id) (bi : ids.length * 16 ≤ Big) (ri : ∀ x ∈ ids, idR x) : Ok Tryz.prog 4 [namedsA l, idsA ids] (.v (boolA true)) := by
  have kl : ∀ p ∈ l, okN p := fun p hp => ⟨bl.2 p hp, rl p hp⟩
  have hll := bl.1
  simp only [Big] at hll bi
  (refine Ok.code hT hM (fn := Tryz.f4) rfl rfl rfl _ _ rfl rfl (Nat.le_of_ble_eq_true rfl) fun E hE hP ht h0 hrd => ?_; refine Go.run hE 9000 ?_; simp only [Tryz.f4, evX, reduceIte, reduceCtorEq, Nat.reduceLT, Nat.reduceAdd, Nat.reduceEqDiff, Nat.reduceBEq, Nat.reduceLeDiff, Nat.reduceMul, ttL, tyL, ht])
  (refine CallG.ok hE 9000 (hP ▸ ok_awake16) rfl rfl ?_ <;> simp only [evX, reduceIte, reduceCtorEq, Nat.reduceLT, Nat.reduceAdd, Nat.reduceEqDiff, Nat.reduceBEq, Nat.reduceLeDiff, Nat.reduceMul, ttL, tyL, ht])
  (refine CallG.ok hE 9000 (hP ▸ ok_fewN l 8 bl) rfl rfl ?_ <;> simp only [evX, reduceIte, reduceCtorEq, Nat.reduceLT, Nat.reduceAdd, Nat.reduceEqDiff, Nat.reduceBEq, Nat.reduceLeDiff, Nat.reduceMul, ttL, tyL, ht])
  cases h1 : fewN l 8 <;> simp only [evX, reduceIte, reduceCtorEq, Nat.reduceLT, Nat.reduceAdd, Nat.reduceEqDiff, Nat.reduceBEq, Nat.reduceLeDiff, Nat.reduceMul, ttL, tyL, ht, Bool.not_false, Bool.not_true]
  · exact RetQ.bool (.inr rfl) rfl rfl
  ((first | refine SelF.byN (fun hb => ?_) (fun hb => ?_) | refine SelF.by (fun hb => ?_) (fun hb => ?_)) <;> simp only [hb, evX, reduceIte, reduceCtorEq, Nat.reduceLT, Nat.reduceAdd, Nat.reduceEqDiff, Nat.reduceBEq, Nat.reduceLeDiff, Nat.reduceMul, ttL, tyL, ht])
  · exact RetQ.bool (.inr rfl) rfl rfl
  refine Loop.by hE (ι := {i : Nat // i ≤ l.length ∧ (idsN (l.take i)).Nodup}) (fun i => ⟨192, [(0, namedsA l), (1, idsA ids), (7, intA (i.1 : Int))], [], [], []⟩) (fun i => l.length - i.1) ⟨0, by simp [idsN]⟩ 9000 ⟨[], Wk.of rfl (by simp) (by rw [h0]; trivial) (by simp [wkT, okA, wkP, cloE, Vam.look]) (by simp [wkBs]) (by simp) (by simp)⟩ (by simp [h0]) ?_
  rintro ⟨i, hi, hall⟩
  simp only [evX, reduceIte, reduceCtorEq, Nat.reduceLT, Nat.reduceAdd, Nat.reduceEqDiff, Nat.reduceBEq, Nat.reduceLeDiff, Nat.reduceMul, ttL, tyL, ht]
  ((first | refine SelF.byN (fun hb => ?_) (fun hb => ?_) | refine SelF.by (fun hb => ?_) (fun hb => ?_)) <;> simp only [hb, evX, reduceIte, reduceCtorEq, Nat.reduceLT, Nat.reduceAdd, Nat.reduceEqDiff, Nat.reduceBEq, Nat.reduceLeDiff, Nat.reduceMul, ttL, tyL, ht])
  · simp only [decide_eq_true_eq] at hb
    have hlt : i < l.length := by omega
    refine SlcR.by hE 9000 (by simp [rowLen]) (by simp) (by simp) (by simp; omega) ?_
    simp only [evX, reduceIte, reduceCtorEq, Nat.reduceLT, Nat.reduceAdd, Nat.reduceEqDiff, Nat.reduceBEq, Nat.reduceLeDiff, Nat.reduceMul, ttL, tyL, ht]
    refine IdxR.nat hE 9000 hlt rfl ?_
    simp only [evX, reduceIte, reduceCtorEq, Nat.reduceLT, Nat.reduceAdd, Nat.reduceEqDiff, Nat.reduceBEq, Nat.reduceLeDiff, Nat.reduceMul, ttL, tyL, ht]
    rw [show List.drop (Int.toNat 0) (List.take ((i : Int)).toNat (namedsC l)) = namedsC (l.take i) by rw [Int.toNat_natCast, Int.toNat_zero, List.drop_zero]; exact List.map_take.symm]
    (refine CallG.ok hE 9000 (hP ▸ ok_Find (l.take i) l[i].id (by simp; omega)) rfl rfl ?_ <;> simp only [evX, reduceIte, reduceCtorEq, Nat.reduceLT, Nat.reduceAdd, Nat.reduceEqDiff, Nat.reduceBEq, Nat.reduceLeDiff, Nat.reduceMul, ttL, tyL, ht])
    refine ⟨by kernel_rfl, ?_⟩
    ((first | refine SelF.byN (fun hb => ?_) (fun hb => ?_) | refine SelF.by (fun hb => ?_) (fun hb => ?_)) <;> simp only [hb, evX, reduceIte, reduceCtorEq, Nat.reduceLT, Nat.reduceAdd, Nat.reduceEqDiff, Nat.reduceBEq, Nat.reduceLeDiff, Nat.reduceMul, ttL, tyL, ht])
    · exact RetQ.bool (.inr rfl) rfl rfl
    · rw [findN_nn] at hb
      refine ⟨⟨i + 1, by omega, nodup_next hlt hall hb⟩, [], Wk.of rfl (by simp) (by rw [h0]; trivial) (by simp [wkT, okA, wkP, cloE, Vam.look, wrapN i (by omega)]) (by simp [wkBs]) (by simp) (by simp), by simp only; omega⟩
  · have hi' : i = l.length := by simp at hb; omega
    subst hi'
    rw [List.take_length] at hall
    have kle := part_len (ids := ids) l
    have kle2 := Px.pick_len (ids := ids) l
    (refine CallG.ok hE 9000 (hP ▸ ok_Part l ids (by omega) kl (by omega)) rfl rfl ?_ <;> simp only [evX, reduceIte, reduceCtorEq, Nat.reduceLT, Nat.reduceAdd, Nat.reduceEqDiff, Nat.reduceBEq, Nat.reduceLeDiff, Nat.reduceMul, ttL, tyL, ht])
    (refine CallG.ok hE 9000 (hP ▸ Px.ok_Pick l ids (by omega) kl (by omega)) rfl rfl ?_ <;> simp only [evX, reduceIte, reduceCtorEq, Nat.reduceLT, Nat.reduceAdd, Nat.reduceEqDiff, Nat.reduceBEq, Nat.reduceLeDiff, Nat.reduceMul, ttL, tyL, ht])
    have f1 : (IntKind.i64.wrap (((partN l ids).1.length : Int) + ((partN l ids).2.length : Int)) != (l.length : Int)) = false := by
      rw [wrap64 (by omega) (by omega), ← kle]; simp
    have f2 : (IntKind.i64.wrap (((pickN l ids).1.length : Int) + ((pickN l ids).2.length : Int)) != (l.length : Int)) = false := by
      rw [wrap64 (by omega) (by omega), ← kle2]; simp
    simp only [f1, f2, Bool.not_false, Bool.not_true, evX, reduceIte, reduceCtorEq, Nat.reduceLT, Nat.reduceAdd, Nat.reduceEqDiff, Nat.reduceBEq, Nat.reduceLeDiff, Nat.reduceMul, ttL, tyL, ht]
    refine Loop.by hE (ι := {i : Nat // i ≤ l.length}) (fun i => ⟨192, [(0, namedsA l), (1, idsA ids), (8, namedsA (partN l ids).1), (9, namedsA (partN l ids).2), (10, namedsA (pickN l ids).1), (11, namedsA (pickN l ids).2), (12, intA (i.1 : Int))], [], [], []⟩) (fun i => l.length - i.1) ⟨0, by simp⟩ 9000 ⟨[], Wk.of rfl (by simp) (by rw [h0]; trivial) (by simp [wkT, okA, wkP, cloE, Vam.look]) (by simp [wkBs]) (by simp) (by simp)⟩ (by simp [h0]) ?_
    rintro ⟨i, hi⟩
    have hi : i ≤ l.length := hi
    simp only [evX, reduceIte, reduceCtorEq, Nat.reduceLT, Nat.reduceAdd, Nat.reduceEqDiff, Nat.reduceBEq, Nat.reduceLeDiff, Nat.reduceMul, ttL, tyL, ht]
    ((first | refine SelF.byN (fun hb => ?_) (fun hb => ?_) | refine SelF.by (fun hb => ?_) (fun hb => ?_)) <;> simp only [hb, evX, reduceIte, reduceCtorEq, Nat.reduceLT, Nat.reduceAdd, Nat.reduceEqDiff, Nat.reduceBEq, Nat.reduceLeDiff, Nat.reduceMul, ttL, tyL, ht])
    · simp only [decide_eq_true_eq] at hb
      have hlt : i < l.length := by omega
      refine Loop.by hE (ι := {k : Nat // k ≤ ids.length}) (fun k => ⟨192, [(0, namedsA l), (1, idsA ids), (8, namedsA (partN l ids).1), (9, namedsA (partN l ids).2), (10, namedsA (pickN l ids).1), (11, namedsA (pickN l ids).2), (12, intA (i : Int)), (13, boolA ((ids.take k.1).any fun y => idEq y l[i].id)), (14, intA (k.1 : Int))], [], [], []⟩) (fun k => ids.length - k.1) ⟨0, by simp⟩ 9000 ⟨[], Wk.of rfl (by simp) (by rw [h0]; trivial) (by simp [wkT, okA, wkP, cloE, Vam.look, ]) (by simp [wkBs]) (by simp) (by simp)⟩ (by simp [h0]) ?_
      rintro ⟨k, hk⟩
      have hk : k ≤ ids.length := hk
      simp only [evX, reduceIte, reduceCtorEq, Nat.reduceLT, Nat.reduceAdd, Nat.reduceEqDiff, Nat.reduceBEq, Nat.reduceLeDiff, Nat.reduceMul, ttL, tyL, ht]
      ((first | refine SelF.byN (fun hb => ?_) (fun hb => ?_) | refine SelF.by (fun hb => ?_) (fun hb => ?_)) <;> simp only [hb, evX, reduceIte, reduceCtorEq, Nat.reduceLT, Nat.reduceAdd, Nat.reduceEqDiff, Nat.reduceBEq, Nat.reduceLeDiff, Nat.reduceMul, ttL, tyL, ht])
      · simp only [decide_eq_true_eq] at hb
        have hlt2 : k < ids.length := by omega
        have h9 := any_next hlt2 (f := fun y => idEq y l[i].id)
        cases hc : (ids.take k).any fun y => idEq y l[i].id
        · rw [hc, Bool.false_or] at h9
          simp only [evX, reduceIte, reduceCtorEq, Nat.reduceLT, Nat.reduceAdd, Nat.reduceEqDiff, Nat.reduceBEq, Nat.reduceLeDiff, Nat.reduceMul, ttL, tyL, ht, Bool.not_false]
          refine IdxR.nat hE 9000 hlt2 rfl ?_
          simp only [evX, reduceIte, reduceCtorEq, Nat.reduceLT, Nat.reduceAdd, Nat.reduceEqDiff, Nat.reduceBEq, Nat.reduceLeDiff, Nat.reduceMul, ttL, tyL, ht]
          refine IdxR.nat hE 9000 hlt rfl ?_
          simp only [evX, reduceIte, reduceCtorEq, Nat.reduceLT, Nat.reduceAdd, Nat.reduceEqDiff, Nat.reduceBEq, Nat.reduceLeDiff, Nat.reduceMul, ttL, tyL, ht]
          (refine HardOp.eqI hE 9000 rfl (hP ▸ eqT) rfl ?_ <;> simp only [evX, reduceIte, reduceCtorEq, Nat.reduceLT, Nat.reduceAdd, Nat.reduceEqDiff, Nat.reduceBEq, Nat.reduceLeDiff, Nat.reduceMul, ttL, tyL, ht])
          refine ⟨by kernel_rfl, ?_⟩
          have hc2 : (ids[k].who == l[i].id.who && ids[k].no == l[i].id.no) = idEq ids[k] l[i].id := rfl
          simp only [hc2, h9, evX, reduceIte, reduceCtorEq, Nat.reduceLT, Nat.reduceAdd, Nat.reduceEqDiff, Nat.reduceBEq, Nat.reduceLeDiff, Nat.reduceMul, ttL, tyL, ht]
          refine ⟨⟨k + 1, by omega⟩, [], Wk.of rfl (by simp) (by rw [h0]; trivial) (by simp [wkT, okA, wkP, cloE, Vam.look, wrapN k (by omega)]) (by simp [wkBs]) (by simp) (by simp), by simp only; omega⟩
        · rw [hc, Bool.true_or] at h9
          simp only [evX, reduceIte, reduceCtorEq, Nat.reduceLT, Nat.reduceAdd, Nat.reduceEqDiff, Nat.reduceBEq, Nat.reduceLeDiff, Nat.reduceMul, ttL, tyL, ht, Bool.not_true]
          refine ⟨by kernel_rfl, ?_⟩
          refine ⟨⟨k + 1, by omega⟩, [], Wk.of rfl (by simp) (by rw [h0]; trivial) (by simp [wkT, okA, wkP, cloE, Vam.look, wrapN k (by omega), ← h9]) (by simp [wkBs]) (by simp) (by simp), by simp only; omega⟩
      · have hi' : k = ids.length := by simp at hb; omega
        subst hi'
        rw [List.take_length]
        have hdef : (ids.any fun y => idEq y l[i].id) = inIds ids l[i] := rfl
        rw [hdef]
        obtain ⟨po, po2⟩ := part_once (ids := ids) hall (List.getElem_mem hlt)
        obtain ⟨qo, qo2⟩ := pick_once (ids := ids) hall (List.getElem_mem hlt)
        have hfn : ∀ (l : List Named) (x : Qm.Id), decide (findN l x ≥ 0) = isN l x := findN_nn
        refine IdxR.nat hE 9000 hlt rfl ?_
        simp only [evX, reduceIte, reduceCtorEq, Nat.reduceLT, Nat.reduceAdd, Nat.reduceEqDiff, Nat.reduceBEq, Nat.reduceLeDiff, Nat.reduceMul, ttL, tyL, ht]
        (refine CallG.ok hE 9000 (hP ▸ ok_Find (partN l ids).1 l[i].id (by omega)) rfl rfl ?_ <;> simp only [evX, reduceIte, reduceCtorEq, Nat.reduceLT, Nat.reduceAdd, Nat.reduceEqDiff, Nat.reduceBEq, Nat.reduceLeDiff, Nat.reduceMul, ttL, tyL, ht])
        refine IdxR.nat hE 9000 hlt rfl ?_
        simp only [evX, reduceIte, reduceCtorEq, Nat.reduceLT, Nat.reduceAdd, Nat.reduceEqDiff, Nat.reduceBEq, Nat.reduceLeDiff, Nat.reduceMul, ttL, tyL, ht]
        (refine CallG.ok hE 9000 (hP ▸ ok_Find (partN l ids).2 l[i].id (by omega)) rfl rfl ?_ <;> simp only [evX, reduceIte, reduceCtorEq, Nat.reduceLT, Nat.reduceAdd, Nat.reduceEqDiff, Nat.reduceBEq, Nat.reduceLeDiff, Nat.reduceMul, ttL, tyL, ht])
        refine IdxR.nat hE 9000 hlt rfl ?_
        simp only [evX, reduceIte, reduceCtorEq, Nat.reduceLT, Nat.reduceAdd, Nat.reduceEqDiff, Nat.reduceBEq, Nat.reduceLeDiff, Nat.reduceMul, ttL, tyL, ht]
        (refine CallG.ok hE 9000 (hP ▸ ok_Find (pickN l ids).1 l[i].id (by omega)) rfl rfl ?_ <;> simp only [evX, reduceIte, reduceCtorEq, Nat.reduceLT, Nat.reduceAdd, Nat.reduceEqDiff, Nat.reduceBEq, Nat.reduceLeDiff, Nat.reduceMul, ttL, tyL, ht])
        refine IdxR.nat hE 9000 hlt rfl ?_
        simp only [evX, reduceIte, reduceCtorEq, Nat.reduceLT, Nat.reduceAdd, Nat.reduceEqDiff, Nat.reduceBEq, Nat.reduceLeDiff, Nat.reduceMul, ttL, tyL, ht]
        (refine CallG.ok hE 9000 (hP ▸ ok_Find (pickN l ids).2 l[i].id (by omega)) rfl rfl ?_ <;> simp only [evX, reduceIte, reduceCtorEq, Nat.reduceLT, Nat.reduceAdd, Nat.reduceEqDiff, Nat.reduceBEq, Nat.reduceLeDiff, Nat.reduceMul, ttL, tyL, ht])
        simp only [hfn, po, qo, evX, reduceIte, reduceCtorEq, Nat.reduceLT, Nat.reduceAdd, Nat.reduceEqDiff, Nat.reduceBEq, Nat.reduceLeDiff, Nat.reduceMul, ttL, tyL, ht]
        cases hin : inIds ids l[i]
        · simp only [evX, reduceIte, reduceCtorEq, Nat.reduceLT, Nat.reduceAdd, Nat.reduceEqDiff, Nat.reduceBEq, Nat.reduceLeDiff, Nat.reduceMul, ttL, tyL, ht, Bool.not_false]
          refine ⟨⟨i + 1, by omega⟩, [], Wk.of rfl (by simp) (by rw [h0]; trivial) (by simp [wkT, okA, wkP, cloE, Vam.look, wrapN i (by omega)]) (by simp [wkBs]) (by simp) (by simp), by simp only; omega⟩
        · simp only [po2 hin, qo2 hin, evX, reduceIte, reduceCtorEq, Nat.reduceLT, Nat.reduceAdd, Nat.reduceEqDiff, Nat.reduceBEq, Nat.reduceLeDiff, Nat.reduceMul, ttL, tyL, ht, Bool.not_true]
          refine ⟨⟨i + 1, by omega⟩, [], Wk.of rfl (by simp) (by rw [h0]; trivial) (by simp [wkT, okA, wkP, cloE, Vam.look, wrapN i (by omega)]) (by simp [wkBs]) (by simp) (by simp), by simp only; omega⟩
    · have e1 := ok_Part l [] (by omega) kl (by simp)
      have e2 := Px.ok_Pick l [] (by omega) kl (by simp)
      rw [part_none (ids := []) (fun p _ => rfl)] at e1
      rw [pick_none (ids := []) (fun p _ => rfl)] at e2
      (refine CallG.ok hE 9000 (hP ▸ e1) rfl rfl ?_ <;> simp only [evX, reduceIte, reduceCtorEq, Nat.reduceLT, Nat.reduceAdd, Nat.reduceEqDiff, Nat.reduceBEq, Nat.reduceLeDiff, Nat.reduceMul, ttL, tyL, ht])
      (refine CallG.ok hE 9000 (hP ▸ e2) rfl rfl ?_ <;> simp only [evX, reduceIte, reduceCtorEq, Nat.reduceLT, Nat.reduceAdd, Nat.reduceEqDiff, Nat.reduceBEq, Nat.reduceLeDiff, Nat.reduceMul, ttL, tyL, ht])
      have c0 : (((0 : Nat) : Int) == 0) = true := rfl
      try simp only [List.map_nil, List.length_nil, c0, beq_self_eq_true, evX, reduceIte, reduceCtorEq, Nat.reduceLT, Nat.reduceAdd, Nat.reduceEqDiff, Nat.reduceBEq, Nat.reduceLeDiff, Nat.reduceMul, ttL, tyL, ht]
      exact RetQ.bool (.inr rfl) rfl rfl
end Go.Proofs.YthfogkmhgepgaaaGreat
