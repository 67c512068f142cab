/- The program's functions, walked (part 17). -/
import Derived.Test.YtmfbcgheffdghaaGreatS16
import Derived.Test.YtmfbcgheffdghaaGreatS10
import Derived.Test.YtmfbcgheffdghaaGreatG12
import Derived.Test.YtmfbcgheffdghaaGreatS15
/- Merging: the program's way. -/
namespace Go.Proofs.YtmfbcgheffdghaaGreat
open Go.Vam Go.Qm
set_option linter.unusedVariables false
set_option linter.unusedSimpArgs false
set_option maxRecDepth 8000
set_option maxHeartbeats 4000000

structure okM (l : List Named) : Prop where
  n : l.length ≤ 100
  k : ∀ p ∈ l, okN p
  s : ∀ p ∈ l, p.l.length ≤ 10
theorem okM.B {l : List Named} (h : okM l) : namedsB l := ⟨by have := h.n; simp only [Big]; omega, fun p hp => (h.k p hp).b⟩
theorem okM.all {l : List Named} (h : okM l) : (allN l).length ≤ 1000 := by have := allN_len h.s; have := h.n; omega
theorem okM.P {l : List Named} (h : okM l) : ∀ q ∈ allN l, okP q := fun q hq => by
  obtain ⟨p, hp, hq⟩ := allN_mem hq
  exact (h.k p hp).l q hq
theorem okM.R {l : List Named} (h : okM l) : ∀ p ∈ l, idR p.id := fun p hp => (h.k p hp).r.1
theorem okM.gone {l : List Named} (h : okM l) (ids : List Qm.Id) : okM (partN l ids).2 := by
  have := part_len (ids := ids) l
  exact ⟨by have := h.n; omega, (partN_keep okN_pass h.k).2, (partN_keep short_passN h.s).2⟩
theorem okM.stay {l : List Named} (h : okM l) (ids : List Qm.Id) : okM (partN l ids).1 := by
  have := part_len (ids := ids) l
  exact ⟨by have := h.n; omega, (partN_keep okN_pass h.k).1, (partN_keep short_passN h.s).1⟩
theorem ttSet : tt 56 = none := rfl
theorem keys_twiceI (l : List Named) : decide (((keysN l).length : Int) < (l.length : Int)) = twiceN l := by
  rw [← keys_twice]
  congr 1
  exact propext Int.ofNat_lt
theorem turn_P {l : List Prim} (h : ∀ q ∈ l, okP q) : ∀ q ∈ turnL l, okP q := fun q hq => by
  obtain ⟨z, hz, rfl⟩ := List.mem_map.1 hq
  have := h z (by simpa using hz)
  exact ⟨turnP_B this.1, turnP_R this.2⟩
theorem ok_Merge (a b : List Named) (ka : okM a) (kb : okM b) : Ok Tryz.prog 11 [namedsA a, namedsA b] (.v (.tup [namedsA (mergeN a b).1, intA (mergeN a b).2])) := by
  have na := ka.n
  have nb := kb.n
  have hla : (idsN a).length = a.length := by simp [idsN]
  have hlb : (idsN b).length = b.length := by simp [idsN]
  have hid : ∀ (l : List Named) (i : Nat) (h : i < l.length), (idsC (idsN l))[i]? = some (idC l[i].id) := fun l i h => by
    rw [List.getElem?_map, idsN, List.getElem?_map, List.getElem?_eq_getElem h]; rfl
  (refine Ok.code hT hM (fn := Tryz.f11) rfl rfl rfl _ _ rfl rfl (Nat.le_of_ble_eq_true rfl) fun E hE hP ht h0 hrd => ?_; refine Go.run hE 9000 ?_; simp only [Tryz.f11, evX, reduceIte, reduceCtorEq, Nat.reduceLT, Nat.reduceAdd, Nat.reduceEqDiff, Nat.reduceBEq, Nat.reduceLeDiff, Nat.reduceMul, ttL, tyL, ht])
  refine CallG.inl hE hP ht (fn := Tryz.f24) rfl rfl rfl _ _ rfl rfl _ rfl (Nat.le_of_ble_eq_true rfl) fun E1 hE1 hP1 ht1 h01 hrd1 => ?_
  have h01 : E1.n0 = 0 := by rw [h01]; rfl
  refine Go.run hE1 9000 ?_
  simp only [Tryz.f24, evX, reduceIte, reduceCtorEq, Nat.reduceLT, Nat.reduceAdd, Nat.reduceEqDiff, Nat.reduceBEq, Nat.reduceLeDiff, Nat.reduceMul, ttL, tyL, ht1]
  refine HardOp.mkMap hE1 9000 rfl ?_
  simp only [evX, reduceIte, reduceCtorEq, Nat.reduceLT, Nat.reduceAdd, Nat.reduceEqDiff, Nat.reduceBEq, Nat.reduceLeDiff, Nat.reduceMul, ttL, tyL, ht1]
  refine CallG.ok hE1 9000 (hP1 ▸ ok_Ids a (by omega)) rfl rfl ?_
  simp only [evX, reduceIte, reduceCtorEq, Nat.reduceLT, Nat.reduceAdd, Nat.reduceEqDiff, Nat.reduceBEq, Nat.reduceLeDiff, Nat.reduceMul, ttL, tyL, ht1]
  refine Loop.by hE1 (ι := {i : Nat // i ≤ a.length}) (fun i => ⟨18, [(3, .own 0), (8, .own 1), (9, intA ((idsN a).length : Int)), (10, intA (i.1 : Int))], [.mp (keysN (a.take i.1)), .rows 33 2 (idsC (idsN a))], [], []⟩) (fun i => a.length - i.1) ⟨0, by simp⟩ 9000 ⟨[0, 1], ?_⟩ (by simp [h01]) ?_
  · refine Wk.of rfl (by simp) (by rw [h01]; simp [fixB]) ?_ ?_ (by simp) (by simp)
    · simp [wkT, okA, Vam.look, sig]
    · simp [wkBs, setBx, nthB, wkBx, wkL, okA, wkP, cloE, sig, wkT, Vam.look, keysN, idsN]
  rintro ⟨i, hi⟩
  have hi : i ≤ a.length := hi
  simp only [evX, reduceIte, reduceCtorEq, Nat.reduceLT, Nat.reduceAdd, Nat.reduceEqDiff, Nat.reduceBEq, Nat.reduceLeDiff, Nat.reduceMul, ttL, tyL, ht1]
  ((first | refine SelF.byN (fun hb => ?_) (fun hb => ?_) | refine SelF.by (fun hb => ?_) (fun hb => ?_)) <;> simp only [hb, evX, reduceIte, reduceCtorEq, Nat.reduceLT, Nat.reduceAdd, Nat.reduceEqDiff, Nat.reduceBEq, Nat.reduceLeDiff, Nat.reduceMul, ttL, tyL, ht1])
  · simp only [decide_eq_true_eq] at hb
    have hlt : i < a.length := by omega
    refine IdxO.by hE1 9000 (by omega) (by simp; omega) ?_
    try simp only [Int.toNat_natCast, Nat.sub_self]
    simp only [evX, reduceIte, reduceCtorEq, Nat.reduceLT, Nat.reduceAdd, Nat.reduceEqDiff, Nat.reduceBEq, Nat.reduceLeDiff, Nat.reduceMul, ttL, tyL, ht1]
    refine LdO.by hE1 (j := i) (row := idC a[i].id) 9000 (hid a i hlt) (by simp) (by simp) ?_
    try simp only [Int.toNat_natCast, Nat.sub_self]
    simp only [evX, reduceIte, reduceCtorEq, Nat.reduceLT, Nat.reduceAdd, Nat.reduceEqDiff, Nat.reduceBEq, Nat.reduceLeDiff, Nat.reduceMul, ttL, tyL, ht1]
    refine StG.by hE1 ht1 9000 rfl ?_
    simp only [evX, reduceIte, reduceCtorEq, Nat.reduceLT, Nat.reduceAdd, Nat.reduceEqDiff, Nat.reduceBEq, Nat.reduceLeDiff, Nat.reduceMul, ttL, tyL, ht1]
    have hkk : KeysOk Tryz.prog 33 (keyI a[i].id :: keysN (a.take i)) := idKeys fun k hk => by
      rcases List.mem_cons.1 hk with rfl | hk
      · exact ka.R _ (List.getElem_mem hlt)
      · exact keysN_R (fun p hp => ka.R p (List.mem_of_mem_take hp)) k hk
    refine HardOp.mapSet hE1 (q := keyI a[i].id) 9000 rfl (hP1 ▸ mapU) (hP1 ▸ idKeyed) rfl rfl rfl (hP1 ▸ hkk) rfl rfl ?_
    simp only [evX, reduceIte, reduceCtorEq, Nat.reduceLT, Nat.reduceAdd, Nat.reduceEqDiff, Nat.reduceBEq, Nat.reduceLeDiff, Nat.reduceMul, ttL, tyL, ht1]
    refine ⟨⟨i + 1, by omega⟩, [0, 1], Wk.of rfl (by simp) (by rw [h01]; simp [fixB]) ?_ ?_ (by simp) (by simp), by simp only; omega⟩
    · simp [wkT, okA, Vam.look, sig]
      rw [wrap64 (by omega) (by omega)]
    · simp [wkBs, setBx, nthB, wkBx, wkL, okA, wkP, cloE, sig, wkT, Vam.look, keys_take hlt]
  have hi' : i = a.length := by simp at hb; omega
  subst hi'
  rw [List.take_length]
  refine InlQ.by hE 9000 (.inr rfl) rfl ?_
  simp only [ttSet, evX, reduceIte, reduceCtorEq, Nat.reduceLT, Nat.reduceAdd, Nat.reduceEqDiff, Nat.reduceBEq, Nat.reduceLeDiff, Nat.reduceMul, ttL, tyL, ht]
  refine HardOp.mapLen hE 9000 rfl (hP ▸ mapU) rfl rfl rfl ?_
  simp only [ttSet, keys_twiceI, evX, reduceIte, reduceCtorEq, Nat.reduceLT, Nat.reduceAdd, Nat.reduceEqDiff, Nat.reduceBEq, Nat.reduceLeDiff, Nat.reduceMul, ttL, tyL, ht]
  cases hta : twiceN a
  rotate_left
  · simp only [ttSet, evX, reduceIte, reduceCtorEq, Nat.reduceLT, Nat.reduceAdd, Nat.reduceEqDiff, Nat.reduceBEq, Nat.reduceLeDiff, Nat.reduceMul, ttL, tyL, ht, Bool.not_true]
    have e : mergeN a b = ([], 1) := by rw [mergeN, if_pos (.inl hta)]
    rw [e]
    exact RetQ.two (.inr rfl) rfl rfl rfl rfl
  simp only [ttSet, evX, reduceIte, reduceCtorEq, Nat.reduceLT, Nat.reduceAdd, Nat.reduceEqDiff, Nat.reduceBEq, Nat.reduceLeDiff, Nat.reduceMul, ttL, tyL, ht, Bool.not_false]
  refine CallG.inl hE hP ht (fn := Tryz.f24) rfl rfl rfl _ _ rfl rfl _ rfl (Nat.le_of_ble_eq_true rfl) fun E1 hE1 hP1 ht1 h01 hrd1 => ?_
  have h01 : E1.n0 = 2 := by rw [h01]; rfl
  refine Go.run hE1 9000 ?_
  simp only [Tryz.f24, evX, reduceIte, reduceCtorEq, Nat.reduceLT, Nat.reduceAdd, Nat.reduceEqDiff, Nat.reduceBEq, Nat.reduceLeDiff, Nat.reduceMul, ttL, tyL, ht1]
  refine HardOp.mkMap hE1 9000 rfl ?_
  simp only [evX, reduceIte, reduceCtorEq, Nat.reduceLT, Nat.reduceAdd, Nat.reduceEqDiff, Nat.reduceBEq, Nat.reduceLeDiff, Nat.reduceMul, ttL, tyL, ht1]
  refine CallG.ok hE1 9000 (hP1 ▸ ok_Ids b (by omega)) rfl rfl ?_
  simp only [evX, reduceIte, reduceCtorEq, Nat.reduceLT, Nat.reduceAdd, Nat.reduceEqDiff, Nat.reduceBEq, Nat.reduceLeDiff, Nat.reduceMul, ttL, tyL, ht1]
  refine Loop.by hE1 (ι := {i : Nat // i ≤ b.length}) (fun i => ⟨18, [(3, .own 2), (8, .own 3), (9, intA ((idsN b).length : Int)), (10, intA (i.1 : Int))], [.mp (keysN a), .rows 33 2 (idsC (idsN a)), .mp (keysN (b.take i.1)), .rows 33 2 (idsC (idsN b))], [], []⟩) (fun i => b.length - i.1) ⟨0, by simp⟩ 9000 ⟨[0, 1, 2, 3], ?_⟩ (by simp [h01]) ?_
  · refine Wk.of rfl (by simp) (by rw [h01]; simp [fixB]) ?_ ?_ (by simp) (by simp)
    · simp [wkT, okA, Vam.look, sig]
    · simp [wkBs, setBx, nthB, wkBx, wkL, okA, wkP, cloE, sig, wkT, Vam.look, keysN, idsN]
  rintro ⟨i, hi⟩
  have hi : i ≤ b.length := hi
  simp only [evX, reduceIte, reduceCtorEq, Nat.reduceLT, Nat.reduceAdd, Nat.reduceEqDiff, Nat.reduceBEq, Nat.reduceLeDiff, Nat.reduceMul, ttL, tyL, ht1]
  ((first | refine SelF.byN (fun hb => ?_) (fun hb => ?_) | refine SelF.by (fun hb => ?_) (fun hb => ?_)) <;> simp only [hb, evX, reduceIte, reduceCtorEq, Nat.reduceLT, Nat.reduceAdd, Nat.reduceEqDiff, Nat.reduceBEq, Nat.reduceLeDiff, Nat.reduceMul, ttL, tyL, ht1])
  · simp only [decide_eq_true_eq] at hb
    have hlt : i < b.length := by omega
    refine IdxO.by hE1 9000 (by omega) (by simp; omega) ?_
    try simp only [Int.toNat_natCast, Nat.sub_self]
    simp only [evX, reduceIte, reduceCtorEq, Nat.reduceLT, Nat.reduceAdd, Nat.reduceEqDiff, Nat.reduceBEq, Nat.reduceLeDiff, Nat.reduceMul, ttL, tyL, ht1]
    refine LdO.by hE1 (j := i) (row := idC b[i].id) 9000 (hid b i hlt) (by simp) (by simp) ?_
    try simp only [Int.toNat_natCast, Nat.sub_self]
    simp only [evX, reduceIte, reduceCtorEq, Nat.reduceLT, Nat.reduceAdd, Nat.reduceEqDiff, Nat.reduceBEq, Nat.reduceLeDiff, Nat.reduceMul, ttL, tyL, ht1]
    refine StG.by hE1 ht1 9000 rfl ?_
    simp only [evX, reduceIte, reduceCtorEq, Nat.reduceLT, Nat.reduceAdd, Nat.reduceEqDiff, Nat.reduceBEq, Nat.reduceLeDiff, Nat.reduceMul, ttL, tyL, ht1]
    have hkk : KeysOk Tryz.prog 33 (keyI b[i].id :: keysN (b.take i)) := idKeys fun k hk => by
      rcases List.mem_cons.1 hk with rfl | hk
      · exact kb.R _ (List.getElem_mem hlt)
      · exact keysN_R (fun p hp => kb.R p (List.mem_of_mem_take hp)) k hk
    refine HardOp.mapSet hE1 (q := keyI b[i].id) 9000 rfl (hP1 ▸ mapU) (hP1 ▸ idKeyed) rfl rfl rfl (hP1 ▸ hkk) rfl rfl ?_
    simp only [evX, reduceIte, reduceCtorEq, Nat.reduceLT, Nat.reduceAdd, Nat.reduceEqDiff, Nat.reduceBEq, Nat.reduceLeDiff, Nat.reduceMul, ttL, tyL, ht1]
    refine ⟨⟨i + 1, by omega⟩, [0, 1, 2, 3], Wk.of rfl (by simp) (by rw [h01]; simp [fixB]) ?_ ?_ (by simp) (by simp), by simp only; omega⟩
    · simp [wkT, okA, Vam.look, sig]
      rw [wrap64 (by omega) (by omega)]
    · simp [wkBs, setBx, nthB, wkBx, wkL, okA, wkP, cloE, sig, wkT, Vam.look, keys_take hlt]
  have hi' : i = b.length := by simp at hb; omega
  subst hi'
  rw [List.take_length]
  refine InlQ.by hE 9000 (.inr rfl) rfl ?_
  simp only [ttSet, evX, reduceIte, reduceCtorEq, Nat.reduceLT, Nat.reduceAdd, Nat.reduceEqDiff, Nat.reduceBEq, Nat.reduceLeDiff, Nat.reduceMul, ttL, tyL, ht]
  refine HardOp.mapLen hE 9000 rfl (hP ▸ mapU) rfl rfl rfl ?_
  simp only [ttSet, keys_twiceI, evX, reduceIte, reduceCtorEq, Nat.reduceLT, Nat.reduceAdd, Nat.reduceEqDiff, Nat.reduceBEq, Nat.reduceLeDiff, Nat.reduceMul, ttL, tyL, ht]
  cases htb : twiceN b
  rotate_left
  · simp only [ttSet, evX, reduceIte, reduceCtorEq, Nat.reduceLT, Nat.reduceAdd, Nat.reduceEqDiff, Nat.reduceBEq, Nat.reduceLeDiff, Nat.reduceMul, ttL, tyL, ht]
    have e : mergeN a b = ([], 1) := by rw [mergeN, if_pos (.inr htb)]
    rw [e]
    exact RetQ.two (.inr rfl) rfl rfl rfl rfl
  simp only [ttSet, evX, reduceIte, reduceCtorEq, Nat.reduceLT, Nat.reduceAdd, Nat.reduceEqDiff, Nat.reduceBEq, Nat.reduceLeDiff, Nat.reduceMul, ttL, tyL, ht]
  have ln1 : (missN b a).length ≤ a.length := by rw [← hla]; exact List.length_filter_le _ _
  have ln2 : (missN a b).length ≤ b.length := by rw [← hlb]; exact List.length_filter_le _ _
  (refine CallG.ok hE 9000 (hP ▸ ok_Missing b a (by omega) (by omega) kb.R ka.R) rfl rfl ?_ <;> simp only [evX, reduceIte, reduceCtorEq, Nat.reduceLT, Nat.reduceAdd, Nat.reduceEqDiff, Nat.reduceBEq, Nat.reduceLeDiff, Nat.reduceMul, ttL, tyL, ht])
  (refine CallG.ok hE 9000 (hP ▸ ok_Missing a b (by omega) (by omega) ka.R kb.R) rfl rfl ?_ <;> simp only [evX, reduceIte, reduceCtorEq, Nat.reduceLT, Nat.reduceAdd, Nat.reduceEqDiff, Nat.reduceBEq, Nat.reduceLeDiff, Nat.reduceMul, ttL, tyL, ht])
  (refine CallG.ok hE 9000 (hP ▸ ok_Part a (missN b a) (by omega) ka.k (by omega)) rfl rfl ?_ <;> simp only [evX, reduceIte, reduceCtorEq, Nat.reduceLT, Nat.reduceAdd, Nat.reduceEqDiff, Nat.reduceBEq, Nat.reduceLeDiff, Nat.reduceMul, ttL, tyL, ht])
  (refine CallG.ok hE 9000 (hP ▸ ok_Part b (missN a b) (by omega) kb.k (by omega)) rfl rfl ?_ <;> simp only [evX, reduceIte, reduceCtorEq, Nat.reduceLT, Nat.reduceAdd, Nat.reduceEqDiff, Nat.reduceBEq, Nat.reduceLeDiff, Nat.reduceMul, ttL, tyL, ht])
  have hno : ¬ (twiceN a = true ∨ twiceN b = true) := by simp [hta, htb]
  ((first | refine SelF.byN (fun hb => ?_) (fun hb => ?_) | refine SelF.by (fun hb => ?_) (fun hb => ?_)) <;> simp only [hb, evX, reduceIte, reduceCtorEq, Nat.reduceLT, Nat.reduceAdd, Nat.reduceEqDiff, Nat.reduceBEq, Nat.reduceLeDiff, Nat.reduceMul, ttL, tyL, ht])
  rotate_left
  · have e : mergeN a b = ([], 6) := by rw [mergeN, if_neg hno, if_pos (.inl (by simp at hb; omega))]
    rw [e]
    exact RetQ.two (.inr rfl) rfl rfl rfl rfl
  have h6 : ¬ (partN a (missN b a)).2.length > (missN b a).length := by simp at hb; omega
  ((first | refine SelF.byN (fun hb => ?_) (fun hb => ?_) | refine SelF.by (fun hb => ?_) (fun hb => ?_)) <;> simp only [hb, evX, reduceIte, reduceCtorEq, Nat.reduceLT, Nat.reduceAdd, Nat.reduceEqDiff, Nat.reduceBEq, Nat.reduceLeDiff, Nat.reduceMul, ttL, tyL, ht])
  · have e : mergeN a b = ([], 6) := by rw [mergeN, if_neg hno, if_pos (.inr (by simp at hb; omega))]
    rw [e]
    exact RetQ.two (.inr rfl) rfl rfl rfl rfl
  have h7 : ¬ (partN b (missN a b)).2.length > (missN a b).length := by simp at hb; omega
  have hmn : carryN (turnL (allN (partN a (missN b a)).2)) (partN b (missN a b)).2 = none → mergeN a b = ([], 7) := fun h => by rw [mergeN, if_neg hno, if_neg (by omega), h]
  have hms : ∀ m, carryN (turnL (allN (partN a (missN b a)).2)) (partN b (missN a b)).2 = some m → mergeN a b = (a ++ m, 0) := fun m h => by rw [mergeN, if_neg hno, if_neg (by omega), h]
  have ko := ka.gone (missN b a)
  have kt := kb.gone (missN a b)
  have hpo := ok_PartO a [] (by omega) ka.k (by simp)
  rw [part_nil] at hpo
  have kt1 := kt.n
  have ko1 := ko.all
  generalize (partN a (missN b a)).2 = own at hmn hms ko ko1
  generalize hth : (partN b (missN a b)).2 = th at hmn hms kt kt1
  have hu0 : ∀ q ∈ turnL (allN own), okP q := turn_P ko.P
  have hul : (turnL (allN own)).length ≤ 1000 := by simpa using ko1
  (refine CallG.ok hE 9000 (hP ▸ hpo) rfl rfl ?_ <;> simp only [evX, reduceIte, reduceCtorEq, Nat.reduceLT, Nat.reduceAdd, Nat.reduceEqDiff, Nat.reduceBEq, Nat.reduceLeDiff, Nat.reduceMul, ttL, tyL, ht])
  simp only [retE, evX, reduceIte, reduceCtorEq, Nat.reduceLT, Nat.reduceAdd, Nat.reduceEqDiff, Nat.reduceBEq, Nat.reduceLeDiff, Nat.reduceMul, ttL, tyL, ht]
  (refine CallG.ok hE 9000 (hP ▸ ok_All own ko.B (by omega)) rfl rfl ?_ <;> simp only [evX, reduceIte, reduceCtorEq, Nat.reduceLT, Nat.reduceAdd, Nat.reduceEqDiff, Nat.reduceBEq, Nat.reduceLeDiff, Nat.reduceMul, ttL, tyL, ht])
  (refine CallG.ok hE 9000 (hP ▸ ok_Turn (allN own) (by omega) (fun q hq => (ko.P q hq).1)) rfl rfl ?_ <;> simp only [evX, reduceIte, reduceCtorEq, Nat.reduceLT, Nat.reduceAdd, Nat.reduceEqDiff, Nat.reduceBEq, Nat.reduceLeDiff, Nat.reduceMul, ttL, tyL, ht])
  simp only [turnL] at hmn hms hu0 hul
  generalize hu : (allN own).reverse.map turnP = u0 at hmn hms hu0 hul
  refine Loop.by hE (ι := {s : Nat × List Named × List Prim // s.1 ≤ th.length ∧ carryN u0 (th.take s.1) = some s.2.1 ∧ passL u0 (allN (th.take s.1)) = some (allN s.2.1, s.2.2)}) (fun s => ⟨97, [(12, .own 0), (14, primsA s.1.2.2), (72, namedsA th), (73, intA th.length), (74, intA (s.1.1 : Int))], [.rows 36 5 (namedsC (a ++ s.1.2.1))], [], []⟩) (fun s => th.length - s.1.1) ⟨(0, [], u0), by omega, by simp [carryN], by simpa [allN] using (passL_nr u0).2 ⟨rfl, rfl⟩⟩ 9000 ⟨[4], ?_⟩ (by simp [h0]) ?_
  · refine Wk.of rfl (by simp) (by rw [h0]; trivial) ?_ ?_ (by simp) (by simp)
    · simp [wkT, okA, Vam.look, sig]
    · simp [wkBs, setBx, nthB, wkBx, wkL, okA, sig, wkT, Vam.look]
  rintro ⟨⟨i, m, v⟩, hi, hc, hv⟩
  simp only at hi hc hv
  have hml := (carryN_like hc).1
  simp only [List.length_take] at hml
  simp only [evX, reduceIte, reduceCtorEq, Nat.reduceLT, Nat.reduceAdd, Nat.reduceEqDiff, Nat.reduceBEq, Nat.reduceLeDiff, Nat.reduceMul, ttL, tyL, ht]
  ((first | refine SelF.byN (fun hb => ?_) (fun hb => ?_) | refine SelF.by (fun hb => ?_) (fun hb => ?_)) <;> simp only [hb, evX, reduceIte, reduceCtorEq, Nat.reduceLT, Nat.reduceAdd, Nat.reduceEqDiff, Nat.reduceBEq, Nat.reduceLeDiff, Nat.reduceMul, ttL, tyL, ht])
  · simp only [decide_eq_true_eq] at hb
    have hlt : i < th.length := by omega
    have hx := List.getElem_mem hlt
    obtain ⟨_, kv⟩ := passL_keep okP_pass hv hu0 fun q hq => by
      obtain ⟨p, hp, hq⟩ := allN_mem hq
      exact (kt.k p (List.mem_of_mem_take hp)).l q hq
    have kvl := (passL_len hv).2
    have kxl := kt.s _ hx
    obtain ⟨st1, st2⟩ := carryN_take hlt hc hv
    refine IdxR.nat hE 9000 hlt rfl ?_
    simp only [evX, reduceIte, reduceCtorEq, Nat.reduceLT, Nat.reduceAdd, Nat.reduceEqDiff, Nat.reduceBEq, Nat.reduceLeDiff, Nat.reduceMul, ttL, tyL, ht]
    (refine StG.by hE ht 9000 rfl ?_ <;> simp only [evX, reduceIte, reduceCtorEq, Nat.reduceLT, Nat.reduceAdd, Nat.reduceEqDiff, Nat.reduceBEq, Nat.reduceLeDiff, Nat.reduceMul, ttL, tyL, ht])
    (refine CallG.ok hE 9000 (hP ▸ ok_flowPass v th[i].l (by omega) (by omega) kv (kt.k _ hx).l) rfl rfl ?_ <;> simp only [evX, reduceIte, reduceCtorEq, Nat.reduceLT, Nat.reduceAdd, Nat.reduceEqDiff, Nat.reduceBEq, Nat.reduceLeDiff, Nat.reduceMul, ttL, tyL, ht])
    cases hs : passL v th[i].l with
    | none =>
      have e' : passLT v th[i].l = ([], [], false) := by rw [passLT, hs]
      simp only [e', evX, reduceIte, reduceCtorEq, Nat.reduceLT, Nat.reduceAdd, Nat.reduceEqDiff, Nat.reduceBEq, Nat.reduceLeDiff, Nat.reduceMul, ttL, tyL, ht, Bool.not_false]
      rw [hmn (st2 hs)]
      exact RetQ.two (.inr rfl) rfl rfl rfl rfl
    | some r =>
      have e' : passLT v th[i].l = (r.1, r.2, true) := by rw [passLT, hs]
      obtain ⟨s1, s2⟩ := st1 r.1 r.2 hs
      simp only [e', evX, reduceIte, reduceCtorEq, Nat.reduceLT, Nat.reduceAdd, Nat.reduceEqDiff, Nat.reduceBEq, Nat.reduceLeDiff, Nat.reduceMul, ttL, tyL, ht, Bool.not_true]
      (refine StG.by hE ht 9000 rfl ?_ <;> simp only [evX, reduceIte, reduceCtorEq, Nat.reduceLT, Nat.reduceAdd, Nat.reduceEqDiff, Nat.reduceBEq, Nat.reduceLeDiff, Nat.reduceMul, ttL, tyL, ht])
      refine AppG.by hE 9000 rfl rfl (by simp [rowLen]) (by simp; omega) ?_
      simp only [evX, reduceIte, reduceCtorEq, Nat.reduceLT, Nat.reduceAdd, Nat.reduceEqDiff, Nat.reduceBEq, Nat.reduceLeDiff, Nat.reduceMul, ttL, tyL, ht]
      refine ⟨⟨(i + 1, m ++ [withL th[i] r.1], r.2), by simp only; omega, s1, s2⟩, [3], Wk.of rfl (by simp) (by rw [h0]; trivial) ?_ ?_ (by simp) (by simp), by simp only; omega⟩
      · simp [wkT, okA, Vam.look, sig]
        rw [wrap64 (by omega) (by omega)]
      · simp [wkBs, setBx, nthB, wkBx, wkL, okA, sig, wkT, Vam.look, withL]
  · have hi' : i = th.length := by simp at hb; omega
    subst hi'
    rw [List.take_length] at hc
    rw [hms m hc]
    exact RetQ.two (.inr rfl) rfl rfl rfl rfl
end Go.Proofs.YtmfbcgheffdghaaGreat

/- Merging: the document's way. -/
namespace Go.Proofs.YtmfbcgheffdghaaGreat
open Go.Vam Go.Qm
set_option linter.unusedVariables false
set_option linter.unusedSimpArgs false
set_option maxRecDepth 8000
set_option maxHeartbeats 4000000

theorem findN_lt (l : List Named) (x : Qm.Id) : decide (findN l x < 0) = !hasI l x := by
  have h := idxI_nn (fun p : Named => idEq p.id x) l
  rw [hasI, ← h]
  by_cases h2 : findN l x < 0
  · have h3 : ¬ idxI (fun p : Named => idEq p.id x) l ≥ 0 := by have : findN l x = idxI (fun p : Named => idEq p.id x) l := rfl; omega
    simp [h2, h3]
  · have h3 : idxI (fun p : Named => idEq p.id x) l ≥ 0 := by have : findN l x = idxI (fun p : Named => idEq p.id x) l := rfl; omega
    simp [h2, h3]
theorem findN_first {l : List Named} {i : Nat} (h : i < l.length) : decide (findN l l[i].id < (i : Int)) = hasI (l.take i) l[i].id := by
  cases hc : hasI (l.take i) l[i].id with
  | false =>
    have e : findN l l[i].id = i := idxI_at h hc (idEq_refl _)
    rw [e]; simp
  | true =>
    obtain ⟨p, hp, hpe⟩ := List.any_eq_true.1 hc
    obtain ⟨j, hj, hje⟩ := List.getElem_of_mem hp
    rw [List.getElem_take] at hje
    have hji : j < i := by simp at hj; omega
    have hany : (l.any fun p => idEq p.id l[i].id) = true := List.any_eq_true.2 ⟨p, List.mem_of_mem_take hp, hpe⟩
    have e : findN l l[i].id = (l.findIdx fun p => idEq p.id l[i].id : Nat) := by rw [findN, idxI, if_pos hany]
    rw [e, decide_eq_true_eq]
    rcases Nat.lt_or_ge (l.findIdx fun p => idEq p.id l[i].id) i with h3 | h3
    · omega
    · exfalso
      have := List.not_of_lt_findIdx (p := fun p : Named => idEq p.id l[i].id) (xs := l) (i := j) (by omega)
      simp only [hje, hpe] at this
      simp at this
theorem ok_ref18Missing (a b : List Named) (la : a.length * 80 ≤ 140737488355328) (lb : b.length * 80 ≤ 140737488355328) : Ok Tryz.prog 20 [namedsA a, namedsA b] (.v (idsA (missN a b))) := by
  (refine Ok.code hT hM (fn := Tryz.f20) rfl rfl rfl _ _ rfl rfl (Nat.le_of_ble_eq_true rfl) fun E hE hP ht h0 hrd => ?_; refine Go.run hE 9000 ?_; simp only [Tryz.f20, evX, reduceIte, reduceCtorEq, Nat.reduceLT, Nat.reduceAdd, Nat.reduceEqDiff, Nat.reduceBEq, Nat.reduceLeDiff, Nat.reduceMul, ttL, tyL, ht])
  refine Go.nilT 5 33 2 rfl ?_
  refine Loop.by hE (ι := {i : Nat // i ≤ b.length}) (fun i => ⟨30, [(0, namedsA a), (1, namedsA b), (5, .own 0), (6, intA (i.1 : Int))], [.rows 33 2 (idsC (missN a (b.take i.1)))], [], []⟩) (fun i => b.length - i.1) ⟨0, by simp⟩ 9000 ⟨[0], Wk.of rfl (by simp) (by rw [h0]; simp [fixB]) (by simp [wkT, okA, wkP, cloE, Vam.look, sig, missN, idsN]) (by simp [wkBs, setBx, nthB, wkBx, wkL, okA, wkP, cloE, sig, missN, idsN]) (by simp) (by simp)⟩ (by simp [h0]) ?_
  rintro ⟨i, hi⟩
  have hi : i ≤ b.length := hi
  have hlm : (missN a (b.take i)).length ≤ b.length := by
    refine Nat.le_trans (List.length_filter_le _ _) ?_
    simp [idsN]; omega
  simp only [evX, reduceIte, reduceCtorEq, Nat.reduceLT, Nat.reduceAdd, Nat.reduceEqDiff, Nat.reduceBEq, Nat.reduceLeDiff, Nat.reduceMul, ttL, tyL, ht]
  ((first | refine SelF.byN (fun hb => ?_) (fun hb => ?_) | refine SelF.by (fun hb => ?_) (fun hb => ?_)) <;> simp only [hb, evX, reduceIte, reduceCtorEq, Nat.reduceLT, Nat.reduceAdd, Nat.reduceEqDiff, Nat.reduceBEq, Nat.reduceLeDiff, Nat.reduceMul, ttL, tyL, ht])
  · simp only [decide_eq_true_eq] at hb
    have hlt : i < b.length := by omega
    have hn : missN a (b.take (i + 1)) = missN a (b.take i) ++ (if hasI a b[i].id = true then [] else [b[i].id]) := by
      rw [missN, missN, List.take_add_one, List.getElem?_eq_getElem hlt, idsN_append, List.filter_append]
      congr 1
      cases h : hasI a b[i].id <;> simp [idsN, h]
    refine IdxR.nat hE 9000 hlt rfl ?_
    simp only [evX, reduceIte, reduceCtorEq, Nat.reduceLT, Nat.reduceAdd, Nat.reduceEqDiff, Nat.reduceBEq, Nat.reduceLeDiff, Nat.reduceMul, ttL, tyL, ht]
    (refine CallG.ok hE 9000 (hP ▸ ok_ref14Find a b[i].id (by omega)) rfl rfl ?_ <;> simp only [evX, reduceIte, reduceCtorEq, Nat.reduceLT, Nat.reduceAdd, Nat.reduceEqDiff, Nat.reduceBEq, Nat.reduceLeDiff, Nat.reduceMul, ttL, tyL, ht])
    simp only [findN_lt, evX, reduceIte, reduceCtorEq, Nat.reduceLT, Nat.reduceAdd, Nat.reduceEqDiff, Nat.reduceBEq, Nat.reduceLeDiff, Nat.reduceMul, ttL, tyL, ht]
    cases hc : hasI a b[i].id
    · simp only [hc, Bool.false_eq_true, if_false] at hn
      simp only [evX, reduceIte, reduceCtorEq, Nat.reduceLT, Nat.reduceAdd, Nat.reduceEqDiff, Nat.reduceBEq, Nat.reduceLeDiff, Nat.reduceMul, ttL, tyL, ht, Bool.not_false]
      refine IdxR.nat hE 9000 hlt rfl ?_
      simp only [evX, reduceIte, reduceCtorEq, Nat.reduceLT, Nat.reduceAdd, Nat.reduceEqDiff, Nat.reduceBEq, Nat.reduceLeDiff, Nat.reduceMul, ttL, tyL, ht]
      refine AppG.by hE 9000 rfl rfl (by simp [rowLen]) (by simp; omega) ?_
      simp only [evX, reduceIte, reduceCtorEq, Nat.reduceLT, Nat.reduceAdd, Nat.reduceEqDiff, Nat.reduceBEq, Nat.reduceLeDiff, Nat.reduceMul, ttL, tyL, ht]
      refine ⟨⟨i + 1, by omega⟩, [2], Wk.of rfl (by simp) (by rw [h0]; simp [fixB]) (by simp [wkT, okA, wkP, cloE, Vam.look, sig, wrapN i (by omega), hn]) (by simp [wkBs, setBx, nthB, wkBx, wkL, okA, wkP, cloE, sig, wrapN i (by omega), hn]) (by simp) (by simp), by simp only; omega⟩
    · simp only [hc, if_true, List.append_nil] at hn
      simp only [evX, reduceIte, reduceCtorEq, Nat.reduceLT, Nat.reduceAdd, Nat.reduceEqDiff, Nat.reduceBEq, Nat.reduceLeDiff, Nat.reduceMul, ttL, tyL, ht, Bool.not_true]
      refine ⟨⟨i + 1, by omega⟩, [0], Wk.of rfl (by simp) (by rw [h0]; simp [fixB]) (by simp [wkT, okA, wkP, cloE, Vam.look, sig, wrapN i (by omega), hn]) (by simp [wkBs, setBx, nthB, wkBx, wkL, okA, wkP, cloE, sig, wrapN i (by omega), hn]) (by simp) (by simp), by simp only; omega⟩
  · have hi' : i = b.length := by simp at hb; omega
    subst hi'
    rw [List.take_length]
    exact RetQ.ownV (.inr rfl) rfl rfl rfl rfl
theorem nodup_next18 {l : List Named} {i : Nat} (h : i < l.length) (hn : (idsN (l.take i)).Nodup) (ha : hasI (l.take i) l[i].id = false) : (idsN (l.take (i + 1))).Nodup := by
  rw [List.take_add_one, List.getElem?_eq_getElem h, idsN_append, List.nodup_append]
  refine ⟨hn, by simp [idsN], fun x hx y hy => ?_⟩
  simp [idsN] at hy
  subst hy
  intro e
  subst e
  exact hasI_not.1 ha hx
theorem ok_ref18twice (l : List Named) (hl : l.length < 9223372036854775807) : Ok Tryz.prog 40 [namedsA l] (.v (boolA (twiceN l))) := by
  (refine Ok.code hT hM (fn := Tryz.f40) rfl rfl rfl _ _ rfl rfl (Nat.le_of_ble_eq_true rfl) fun E hE hP ht h0 hrd => ?_; refine Go.run hE 9000 ?_; simp only [Tryz.f40, evX, reduceIte, reduceCtorEq, Nat.reduceLT, Nat.reduceAdd, Nat.reduceEqDiff, Nat.reduceBEq, Nat.reduceLeDiff, Nat.reduceMul, ttL, tyL, ht])
  refine Loop.by hE (ι := {i : Nat // i ≤ l.length ∧ (idsN (l.take i)).Nodup}) (fun i => ⟨19, [(0, namedsA l), (3, intA (i.1 : Int))], [], [], []⟩) (fun i => l.length - i.1) ⟨0, by simp [idsN]⟩ 9000 ⟨[], Wk.of rfl (by simp) (by rw [h0]; trivial) (by simp [wkT, okA, wkP, cloE, Vam.look]) (by simp [wkBs]) (by simp) (by simp)⟩ (by simp [h0]) ?_
  rintro ⟨i, hi, hall⟩
  simp only [evX, reduceIte, reduceCtorEq, Nat.reduceLT, Nat.reduceAdd, Nat.reduceEqDiff, Nat.reduceBEq, Nat.reduceLeDiff, Nat.reduceMul, ttL, tyL, ht]
  ((first | refine SelF.byN (fun hb => ?_) (fun hb => ?_) | refine SelF.by (fun hb => ?_) (fun hb => ?_)) <;> simp only [hb, evX, reduceIte, reduceCtorEq, Nat.reduceLT, Nat.reduceAdd, Nat.reduceEqDiff, Nat.reduceBEq, Nat.reduceLeDiff, Nat.reduceMul, ttL, tyL, ht])
  · simp only [decide_eq_true_eq] at hb
    have hlt : i < l.length := by omega
    refine IdxR.nat hE 9000 hlt rfl ?_
    simp only [evX, reduceIte, reduceCtorEq, Nat.reduceLT, Nat.reduceAdd, Nat.reduceEqDiff, Nat.reduceBEq, Nat.reduceLeDiff, Nat.reduceMul, ttL, tyL, ht]
    (refine CallG.ok hE 9000 (hP ▸ ok_ref14Find l l[i].id (by omega)) rfl rfl ?_ <;> simp only [evX, reduceIte, reduceCtorEq, Nat.reduceLT, Nat.reduceAdd, Nat.reduceEqDiff, Nat.reduceBEq, Nat.reduceLeDiff, Nat.reduceMul, ttL, tyL, ht])
    simp only [findN_first hlt, evX, reduceIte, reduceCtorEq, Nat.reduceLT, Nat.reduceAdd, Nat.reduceEqDiff, Nat.reduceBEq, Nat.reduceLeDiff, Nat.reduceMul, ttL, tyL, ht]
    cases hc : hasI (l.take i) l[i].id
    · simp only [evX, reduceIte, reduceCtorEq, Nat.reduceLT, Nat.reduceAdd, Nat.reduceEqDiff, Nat.reduceBEq, Nat.reduceLeDiff, Nat.reduceMul, ttL, tyL, ht]
      refine ⟨⟨i + 1, by omega, nodup_next18 hlt hall hc⟩, [], Wk.of rfl (by simp) (by rw [h0]; trivial) (by simp [wkT, okA, wkP, cloE, Vam.look, wrapN i (by omega)]) (by simp [wkBs]) (by simp) (by simp), by simp only; omega⟩
    · simp only [evX, reduceIte, reduceCtorEq, Nat.reduceLT, Nat.reduceAdd, Nat.reduceEqDiff, Nat.reduceBEq, Nat.reduceLeDiff, Nat.reduceMul, ttL, tyL, ht]
      have e : twiceN l = true := by
        cases h : twiceN l with
        | true => rfl
        | false =>
          exfalso
          have hn := twiceN_not.1 h
          rw [← List.take_append_drop i l, idsN_append, List.nodup_append] at hn
          exact hn.2.2 _ (hasI_iff.1 hc) l[i].id (List.mem_map.2 ⟨l[i], by rw [List.drop_eq_getElem_cons hlt]; exact List.mem_cons_self, rfl⟩) rfl
      rw [e]
      exact RetQ.bool (.inr rfl) rfl rfl
  · have hi' : i = l.length := by simp at hb; omega
    subst hi'
    rw [List.take_length] at hall
    rw [twiceN_not.2 hall]
    exact RetQ.bool (.inr rfl) rfl rfl
theorem ok_ref18Merge (a b : List Named) (ka : okM a) (kb : okM b) : Ok Tryz.prog 18 [namedsA a, namedsA b] (.v (.tup [namedsA (mergeN a b).1, intA (mergeN a b).2])) := by
  have na := ka.n
  have nb := kb.n
  have hla : (idsN a).length = a.length := by simp [idsN]
  have hlb : (idsN b).length = b.length := by simp [idsN]
  (refine Ok.code hT hM (fn := Tryz.f18) rfl rfl rfl _ _ rfl rfl (Nat.le_of_ble_eq_true rfl) fun E hE hP ht h0 hrd => ?_; refine Go.run hE 9000 ?_; simp only [Tryz.f18, evX, reduceIte, reduceCtorEq, Nat.reduceLT, Nat.reduceAdd, Nat.reduceEqDiff, Nat.reduceBEq, Nat.reduceLeDiff, Nat.reduceMul, ttL, tyL, ht])
  (refine CallG.ok hE 9000 (hP ▸ ok_ref18twice a (by omega)) rfl rfl ?_ <;> simp only [evX, reduceIte, reduceCtorEq, Nat.reduceLT, Nat.reduceAdd, Nat.reduceEqDiff, Nat.reduceBEq, Nat.reduceLeDiff, Nat.reduceMul, ttL, tyL, ht])
  (refine CallG.ok hE 9000 (hP ▸ ok_ref18twice b (by omega)) rfl rfl ?_ <;> simp only [evX, reduceIte, reduceCtorEq, Nat.reduceLT, Nat.reduceAdd, Nat.reduceEqDiff, Nat.reduceBEq, Nat.reduceLeDiff, Nat.reduceMul, ttL, tyL, ht])
  cases hta : twiceN a
  rotate_left
  · simp only [evX, reduceIte, reduceCtorEq, Nat.reduceLT, Nat.reduceAdd, Nat.reduceEqDiff, Nat.reduceBEq, Nat.reduceLeDiff, Nat.reduceMul, ttL, tyL, ht]
    have e : mergeN a b = ([], 1) := by rw [mergeN, if_pos (.inl hta)]
    rw [e]
    exact RetQ.two (.inr rfl) rfl rfl rfl rfl
  simp only [evX, reduceIte, reduceCtorEq, Nat.reduceLT, Nat.reduceAdd, Nat.reduceEqDiff, Nat.reduceBEq, Nat.reduceLeDiff, Nat.reduceMul, ttL, tyL, ht, Bool.not_false]
  cases htb : twiceN b
  rotate_left
  · simp only [evX, reduceIte, reduceCtorEq, Nat.reduceLT, Nat.reduceAdd, Nat.reduceEqDiff, Nat.reduceBEq, Nat.reduceLeDiff, Nat.reduceMul, ttL, tyL, ht]
    have e : mergeN a b = ([], 1) := by rw [mergeN, if_pos (.inr htb)]
    rw [e]
    exact RetQ.two (.inr rfl) rfl rfl rfl rfl
  simp only [evX, reduceIte, reduceCtorEq, Nat.reduceLT, Nat.reduceAdd, Nat.reduceEqDiff, Nat.reduceBEq, Nat.reduceLeDiff, Nat.reduceMul, ttL, tyL, ht]
  have ln1 : (missN b a).length ≤ a.length := by rw [← hla]; exact List.length_filter_le _ _
  have ln2 : (missN a b).length ≤ b.length := by rw [← hlb]; exact List.length_filter_le _ _
  have lm1 := miss_le (a := b) (twiceN_not.1 hta)
  have lm2 := miss_le (a := a) (twiceN_not.1 htb)
  (refine CallG.ok hE 9000 (hP ▸ ok_ref18Missing b a (by omega) (by omega)) rfl rfl ?_ <;> simp only [evX, reduceIte, reduceCtorEq, Nat.reduceLT, Nat.reduceAdd, Nat.reduceEqDiff, Nat.reduceBEq, Nat.reduceLeDiff, Nat.reduceMul, ttL, tyL, ht])
  (refine CallG.ok hE 9000 (hP ▸ ok_ref18Missing a b (by omega) (by omega)) rfl rfl ?_ <;> simp only [evX, reduceIte, reduceCtorEq, Nat.reduceLT, Nat.reduceAdd, Nat.reduceEqDiff, Nat.reduceBEq, Nat.reduceLeDiff, Nat.reduceMul, ttL, tyL, ht])
  (refine CallG.ok hE 9000 (hP ▸ ok_ref16Part a (missN b a) (by omega) ka.k (by omega)) rfl rfl ?_ <;> simp only [evX, reduceIte, reduceCtorEq, Nat.reduceLT, Nat.reduceAdd, Nat.reduceEqDiff, Nat.reduceBEq, Nat.reduceLeDiff, Nat.reduceMul, ttL, tyL, ht])
  (refine CallG.ok hE 9000 (hP ▸ ok_ref16Part b (missN a b) (by omega) kb.k (by omega)) rfl rfl ?_ <;> simp only [evX, reduceIte, reduceCtorEq, Nat.reduceLT, Nat.reduceAdd, Nat.reduceEqDiff, Nat.reduceBEq, Nat.reduceLeDiff, Nat.reduceMul, ttL, tyL, ht])
  have hno : ¬ (twiceN a = true ∨ twiceN b = true) := by simp [hta, htb]
  ((first | refine SelF.byN (fun hb => ?_) (fun hb => ?_) | refine SelF.by (fun hb => ?_) (fun hb => ?_)) <;> simp only [hb, evX, reduceIte, reduceCtorEq, Nat.reduceLT, Nat.reduceAdd, Nat.reduceEqDiff, Nat.reduceBEq, Nat.reduceLeDiff, Nat.reduceMul, ttL, tyL, ht])
  rotate_left
  · have e : mergeN a b = ([], 6) := by rw [mergeN, if_neg hno, if_pos (.inl (by simp at hb; omega))]
    rw [e]
    exact RetQ.two (.inr rfl) rfl rfl rfl rfl
  have h6 : ¬ (partN a (missN b a)).2.length > (missN b a).length := by simp at hb; omega
  ((first | refine SelF.byN (fun hb => ?_) (fun hb => ?_) | refine SelF.by (fun hb => ?_) (fun hb => ?_)) <;> simp only [hb, evX, reduceIte, reduceCtorEq, Nat.reduceLT, Nat.reduceAdd, Nat.reduceEqDiff, Nat.reduceBEq, Nat.reduceLeDiff, Nat.reduceMul, ttL, tyL, ht])
  · have e : mergeN a b = ([], 6) := by rw [mergeN, if_neg hno, if_pos (.inr (by simp at hb; omega))]
    rw [e]
    exact RetQ.two (.inr rfl) rfl rfl rfl rfl
  have h7 : ¬ (partN b (missN a b)).2.length > (missN a b).length := by simp at hb; omega
  have hmn : carryN (turnL (allN (partN a (missN b a)).2)) (partN b (missN a b)).2 = none → mergeN a b = ([], 7) := fun h => by rw [mergeN, if_neg hno, if_neg (by omega), h]
  have hms : ∀ m, carryN (turnL (allN (partN a (missN b a)).2)) (partN b (missN a b)).2 = some m → mergeN a b = (a ++ m, 0) := fun m h => by rw [mergeN, if_neg hno, if_neg (by omega), h]
  have ko := ka.gone (missN b a)
  have kt := kb.gone (missN a b)
  have kt1 := kt.n
  have ko1 := ko.all
  generalize (partN a (missN b a)).2 = own at hmn hms ko ko1
  generalize hth : (partN b (missN a b)).2 = th at hmn hms kt kt1
  have hu0 : ∀ q ∈ turnL (allN own), okP q := turn_P ko.P
  have hul : (turnL (allN own)).length ≤ 1000 := by simpa using ko1
  refine AppG.by hE 9000 rfl rfl (by simp [rowLen]) (by simp; omega) ?_
  simp only [evX, reduceIte, reduceCtorEq, Nat.reduceLT, Nat.reduceAdd, Nat.reduceEqDiff, Nat.reduceBEq, Nat.reduceLeDiff, Nat.reduceMul, ttL, tyL, ht]
  (refine CallG.ok hE 9000 (hP ▸ ok_ref14All own ko.B (by omega)) rfl rfl ?_ <;> simp only [evX, reduceIte, reduceCtorEq, Nat.reduceLT, Nat.reduceAdd, Nat.reduceEqDiff, Nat.reduceBEq, Nat.reduceLeDiff, Nat.reduceMul, ttL, tyL, ht])
  (refine CallG.ok hE 9000 (hP ▸ ok_ref10Turn (allN own) (by omega) (fun q hq => (ko.P q hq).1)) rfl rfl ?_ <;> simp only [evX, reduceIte, reduceCtorEq, Nat.reduceLT, Nat.reduceAdd, Nat.reduceEqDiff, Nat.reduceBEq, Nat.reduceLeDiff, Nat.reduceMul, ttL, tyL, ht])
  simp only [turnL] at hmn hms hu0 hul
  generalize hu : (allN own).reverse.map turnP = u0 at hmn hms hu0 hul
  refine Loop.by hE (ι := {s : Nat × List Named × List Prim // s.1 ≤ th.length ∧ carryN u0 (th.take s.1) = some s.2.1 ∧ passL u0 (allN (th.take s.1)) = some (allN s.2.1, s.2.2)}) (fun s => ⟨92, [(13, namedsA th), (14, .own 0), (15, primsA s.1.2.2), (16, intA (s.1.1 : Int))], [.rows 36 5 (namedsC (a ++ s.1.2.1))], [], []⟩) (fun s => th.length - s.1.1) ⟨(0, [], u0), by omega, by simp [carryN], by simpa [allN] using (passL_nr u0).2 ⟨rfl, rfl⟩⟩ 9000 ⟨[0], ?_⟩ (by simp [h0]) ?_
  · refine Wk.of rfl (by simp) (by rw [h0]; trivial) ?_ ?_ (by simp) (by simp)
    · simp [wkT, okA, Vam.look, sig]
    · simp [wkBs, setBx, nthB, wkBx, wkL, okA, sig, wkT, Vam.look]
  rintro ⟨⟨i, m, v⟩, hi, hc, hv⟩
  simp only at hi hc hv
  have hml := (carryN_like hc).1
  simp only [List.length_take] at hml
  simp only [evX, reduceIte, reduceCtorEq, Nat.reduceLT, Nat.reduceAdd, Nat.reduceEqDiff, Nat.reduceBEq, Nat.reduceLeDiff, Nat.reduceMul, ttL, tyL, ht]
  ((first | refine SelF.byN (fun hb => ?_) (fun hb => ?_) | refine SelF.by (fun hb => ?_) (fun hb => ?_)) <;> simp only [hb, evX, reduceIte, reduceCtorEq, Nat.reduceLT, Nat.reduceAdd, Nat.reduceEqDiff, Nat.reduceBEq, Nat.reduceLeDiff, Nat.reduceMul, ttL, tyL, ht])
  · simp only [decide_eq_true_eq] at hb
    have hlt : i < th.length := by omega
    have hx := List.getElem_mem hlt
    obtain ⟨_, kv⟩ := passL_keep okP_pass hv hu0 fun q hq => by
      obtain ⟨p, hp, hq⟩ := allN_mem hq
      exact (kt.k p (List.mem_of_mem_take hp)).l q hq
    have kvl := (passL_len hv).2
    have kxl := kt.s _ hx
    obtain ⟨st1, st2⟩ := carryN_take hlt hc hv
    refine IdxR.nat hE 9000 hlt rfl ?_
    simp only [evX, reduceIte, reduceCtorEq, Nat.reduceLT, Nat.reduceAdd, Nat.reduceEqDiff, Nat.reduceBEq, Nat.reduceLeDiff, Nat.reduceMul, ttL, tyL, ht]
    (refine StG.by hE ht 9000 rfl ?_ <;> simp only [evX, reduceIte, reduceCtorEq, Nat.reduceLT, Nat.reduceAdd, Nat.reduceEqDiff, Nat.reduceBEq, Nat.reduceLeDiff, Nat.reduceMul, ttL, tyL, ht])
    (refine CallG.ok hE 9000 (hP ▸ ok_ref10Pass v th[i].l (by omega) (by omega) kv (kt.k _ hx).l) rfl rfl ?_ <;> simp only [evX, reduceIte, reduceCtorEq, Nat.reduceLT, Nat.reduceAdd, Nat.reduceEqDiff, Nat.reduceBEq, Nat.reduceLeDiff, Nat.reduceMul, ttL, tyL, ht])
    cases hs : passL v th[i].l with
    | none =>
      have e' : passLT v th[i].l = ([], [], false) := by rw [passLT, hs]
      simp only [e', evX, reduceIte, reduceCtorEq, Nat.reduceLT, Nat.reduceAdd, Nat.reduceEqDiff, Nat.reduceBEq, Nat.reduceLeDiff, Nat.reduceMul, ttL, tyL, ht, Bool.not_false]
      rw [hmn (st2 hs)]
      exact RetQ.two (.inr rfl) rfl rfl rfl rfl
    | some r =>
      have e' : passLT v th[i].l = (r.1, r.2, true) := by rw [passLT, hs]
      obtain ⟨s1, s2⟩ := st1 r.1 r.2 hs
      simp only [e', evX, reduceIte, reduceCtorEq, Nat.reduceLT, Nat.reduceAdd, Nat.reduceEqDiff, Nat.reduceBEq, Nat.reduceLeDiff, Nat.reduceMul, ttL, tyL, ht, Bool.not_true]
      (refine StG.by hE ht 9000 rfl ?_ <;> simp only [evX, reduceIte, reduceCtorEq, Nat.reduceLT, Nat.reduceAdd, Nat.reduceEqDiff, Nat.reduceBEq, Nat.reduceLeDiff, Nat.reduceMul, ttL, tyL, ht])
      refine AppG.by hE 9000 rfl rfl (by simp [rowLen]) (by simp; omega) ?_
      simp only [evX, reduceIte, reduceCtorEq, Nat.reduceLT, Nat.reduceAdd, Nat.reduceEqDiff, Nat.reduceBEq, Nat.reduceLeDiff, Nat.reduceMul, ttL, tyL, ht]
      refine ⟨⟨(i + 1, m ++ [withL th[i] r.1], r.2), by simp only; omega, s1, s2⟩, [3], Wk.of rfl (by simp) (by rw [h0]; trivial) ?_ ?_ (by simp) (by simp), by simp only; omega⟩
      · simp [wkT, okA, Vam.look, sig]
        rw [wrap64 (by omega) (by omega)]
      · simp [wkBs, setBx, nthB, wkBx, wkL, okA, sig, wkT, Vam.look, withL]
  · have hi' : i = th.length := by simp at hb; omega
    subst hi'
    rw [List.take_length] at hc
    rw [hms m hc]
    exact RetQ.two (.inr rfl) rfl rfl rfl rfl
end Go.Proofs.YtmfbcgheffdghaaGreat
