/- The program's functions, walked (part 18). -/
import Derived.Test.YtmfbcgheffdghaaGreatS17
import Derived.Test.YtmfbcgheffdghaaGreatS11
/- Chapter 18's laws: what is merged. -/
namespace Go.Proofs.YtmfbcgheffdghaaGreat
open Go.Vam Go.Qm
set_option linter.unusedVariables false
set_option linter.unusedSimpArgs false
set_option maxRecDepth 8000
set_option maxHeartbeats 4000000

def chg (w a : Int) (o n : Str) : Named := ⟨⟨w, 1⟩, [], ⟨#[]⟩, [⟨3, ⟨#[97]⟩, ⟨#[]⟩, ⟨a, [o], [n]⟩⟩]⟩
theorem ok_change (w a : Int) (o n : Str) : Ok Tryz.prog 22 [intA w, intA a, strA o, strA n] (.v (namedA (chg w a o n))) := by
  (refine Ok.code hT hM (fn := Tryz.f22) rfl rfl rfl _ _ rfl rfl (Nat.le_of_ble_eq_true rfl) fun E hE hP ht h0 hrd => ?_; refine Go.run hE 9000 ?_; simp only [Tryz.f22, evX, reduceIte, reduceCtorEq, Nat.reduceLT, Nat.reduceAdd, Nat.reduceEqDiff, Nat.reduceBEq, Nat.reduceLeDiff, Nat.reduceMul, ttL, tyL, ht])
  refine HardOp.frz hE 9000 13 rfl rfl rfl ?_
  simp only [evX, reduceIte, reduceCtorEq, Nat.reduceLT, Nat.reduceAdd, Nat.reduceEqDiff, Nat.reduceBEq, Nat.reduceLeDiff, Nat.reduceMul, ttL, tyL, ht]
  refine HardOp.frz hE 9000 15 rfl rfl rfl ?_
  simp only [evX, reduceIte, reduceCtorEq, Nat.reduceLT, Nat.reduceAdd, Nat.reduceEqDiff, Nat.reduceBEq, Nat.reduceLeDiff, Nat.reduceMul, ttL, tyL, ht]
  refine HardOp.frz hE 9000 18 rfl rfl rfl ?_
  simp only [evX, reduceIte, reduceCtorEq, Nat.reduceLT, Nat.reduceAdd, Nat.reduceEqDiff, Nat.reduceBEq, Nat.reduceLeDiff, Nat.reduceMul, ttL, tyL, ht]
  (refine StG.by hE ht 9000 rfl ?_ <;> simp only [evX, reduceIte, reduceCtorEq, Nat.reduceLT, Nat.reduceAdd, Nat.reduceEqDiff, Nat.reduceBEq, Nat.reduceLeDiff, Nat.reduceMul, ttL, tyL, ht])
  exact RetQ.cell (.inr rfl) rfl rfl rfl rfl rfl rfl rfl rfl rfl
def aw18b : Named := ⟨⟨3, 1⟩, [], ⟨#[]⟩, [⟨0, ⟨#[97]⟩, ⟨#[]⟩, hunkZ⟩, ⟨3, ⟨#[97]⟩, ⟨#[]⟩, ⟨0, [], [⟨#[97]⟩, ⟨#[98]⟩, ⟨#[99]⟩]⟩⟩]⟩
def aw18x : Named := chg 0 0 ⟨#[97]⟩ ⟨#[120]⟩
def aw18y : Named := chg 1 2 ⟨#[99]⟩ ⟨#[121]⟩
def aw18z : Named := chg 2 0 ⟨#[97]⟩ ⟨#[122]⟩
theorem aw18m : mergeN [aw18b, aw18x] [aw18b, aw18y] = ([aw18b, aw18x, aw18y], 0) := by kernel_rfl
theorem aw18n : mergeN [aw18b, aw18x] [aw18b, aw18z] = ([], 7) := by kernel_rfl
theorem aw18t : runL [] (allN [aw18b, aw18x, aw18y]) = ([⟨⟨#[97]⟩, [⟨#[120]⟩, ⟨#[98]⟩, ⟨#[121]⟩]⟩], 0) := by kernel_rfl
theorem aw18_str (s : Str) (h : s.size ≤ 1) : strZ s := by simp only [strZ, Big]; omega
theorem chg_ok (w a : Int) (o n : Str) (hw : i64 w) (ha : i64 a) (ho : o.size ≤ 1) (hn : n.size ≤ 1) : okN (chg w a o n) := by
  refine ⟨⟨by simp [chg], by simp [chg, Big], by simp [chg, primB, hunkB, Big]⟩, ⟨⟨hw, by simp [chg, i64]⟩, by simp [chg], fun q hq => ?_⟩⟩
  simp only [chg, List.mem_singleton] at hq
  subst hq
  refine ⟨by simp [i64], (show strZ (⟨#[97]⟩ : Str) by decide), (show strZ (⟨#[]⟩ : Str) by decide), ha, fun s hs => ?_, fun s hs => ?_⟩
  · simp only [List.mem_singleton] at hs
    subst hs; exact aw18_str _ ho
  · simp only [List.mem_singleton] at hs
    subst hs; exact aw18_str _ hn
theorem aw18b_ok : okN aw18b := by
  refine ⟨⟨by simp [aw18b], by simp [aw18b, Big], by simp [aw18b, primB, hunkB, hunkZ, Big]⟩, ⟨⟨by simp [aw18b, i64], by simp [aw18b, i64]⟩, by simp [aw18b], fun q hq => ?_⟩⟩
  simp only [aw18b, List.mem_cons, List.mem_nil_iff, or_false] at hq
  rcases hq with rfl | rfl
  · exact ⟨by simp [i64], (show strZ (⟨#[97]⟩ : Str) by decide), (show strZ (⟨#[]⟩ : Str) by decide), by simp [hunkZ, i64], by simp [hunkZ, strsZ], by simp [hunkZ, strsZ]⟩
  · refine ⟨by simp [i64], (show strZ (⟨#[97]⟩ : Str) by decide), (show strZ (⟨#[]⟩ : Str) by decide), by simp [i64], by simp [strsZ], fun s hs => ?_⟩
    simp only [List.mem_cons, List.mem_nil_iff, or_false] at hs
    rcases hs with rfl | rfl | rfl <;> exact aw18_str _ (by decide)
theorem okM_two {p q : Named} (kp : okN p) (kq : okN q) (sp : p.l.length ≤ 10) (sq : q.l.length ≤ 10) : okM [p, q] := by
  refine ⟨by simp, fun x hx => ?_, fun x hx => ?_⟩ <;> (simp only [List.mem_cons, List.mem_nil_iff, or_false] at hx; rcases hx with rfl | rfl <;> assumption)
theorem ok_awake18 : Ok Tryz.prog 9 [] (.v (boolA true)) := by
  have kx : okN aw18x := chg_ok _ _ _ _ (by simp [i64]) (by simp [i64]) (by decide) (by decide)
  have ky : okN aw18y := chg_ok _ _ _ _ (by simp [i64]) (by simp [i64]) (by decide) (by decide)
  have kz : okN aw18z := chg_ok _ _ _ _ (by simp [i64]) (by simp [i64]) (by decide) (by decide)
  have k1 := okM_two aw18b_ok kx (by decide) (by decide)
  have k2 := okM_two aw18b_ok ky (by decide) (by decide)
  have k3 := okM_two aw18b_ok kz (by decide) (by decide)
  have m1 := ok_Merge _ _ k1 k2
  have m2 := ok_Merge _ _ k1 k3
  rw [aw18m] at m1
  rw [aw18n] at m2
  have k4 : ∀ p ∈ [aw18b, aw18x, aw18y], okN p := fun p hp => by
    simp only [List.mem_cons, List.mem_nil_iff, or_false] at hp
    rcases hp with rfl | rfl | rfl
    · exact aw18b_ok
    · exact kx
    · exact ky
  have m3 := ok_patchApply [] [aw18b, aw18x, aw18y] (a := 0) (b := 0) ⟨by simp, by simp⟩ ⟨by simp [Big], fun p hp => (k4 p hp).b⟩ (fun p hp => (k4 p hp).r) (by decide) (by decide) (by decide)
  rw [aw18t] at m3
  (refine Ok.code hT hM (fn := Tryz.f9) rfl rfl rfl _ _ rfl rfl (Nat.le_of_ble_eq_true rfl) fun E hE hP ht h0 hrd => ?_; refine Go.run hE 9000 ?_; simp only [Tryz.f9, evX, reduceIte, reduceCtorEq, Nat.reduceLT, Nat.reduceAdd, Nat.reduceEqDiff, Nat.reduceBEq, Nat.reduceLeDiff, Nat.reduceMul, ttL, tyL, ht])
  refine HardOp.frz hE 9000 13 rfl rfl rfl ?_
  simp only [evX, reduceIte, reduceCtorEq, Nat.reduceLT, Nat.reduceAdd, Nat.reduceEqDiff, Nat.reduceBEq, Nat.reduceLeDiff, Nat.reduceMul, ttL, tyL, ht]
  refine HardOp.frz hE 9000 16 rfl rfl rfl ?_
  simp only [evX, reduceIte, reduceCtorEq, Nat.reduceLT, Nat.reduceAdd, Nat.reduceEqDiff, Nat.reduceBEq, Nat.reduceLeDiff, Nat.reduceMul, ttL, tyL, ht]
  (refine StG.by hE ht 9000 rfl ?_ <;> simp only [evX, reduceIte, reduceCtorEq, Nat.reduceLT, Nat.reduceAdd, Nat.reduceEqDiff, Nat.reduceBEq, Nat.reduceLeDiff, Nat.reduceMul, ttL, tyL, ht])
  (refine CallG.ok hE 9000 (hP ▸ ok_change 0 0 ⟨#[97]⟩ ⟨#[120]⟩) rfl rfl ?_ <;> simp only [evX, reduceIte, reduceCtorEq, Nat.reduceLT, Nat.reduceAdd, Nat.reduceEqDiff, Nat.reduceBEq, Nat.reduceLeDiff, Nat.reduceMul, ttL, tyL, ht])
  refine ⟨by kernel_rfl, ?_⟩
  (refine CallG.ok hE 9000 (hP ▸ ok_change 1 2 ⟨#[99]⟩ ⟨#[121]⟩) rfl rfl ?_ <;> simp only [evX, reduceIte, reduceCtorEq, Nat.reduceLT, Nat.reduceAdd, Nat.reduceEqDiff, Nat.reduceBEq, Nat.reduceLeDiff, Nat.reduceMul, ttL, tyL, ht])
  refine ⟨by kernel_rfl, ?_⟩
  (refine CallG.ok hE 9000 (hP ▸ ok_change 2 0 ⟨#[97]⟩ ⟨#[122]⟩) rfl rfl ?_ <;> simp only [evX, reduceIte, reduceCtorEq, Nat.reduceLT, Nat.reduceAdd, Nat.reduceEqDiff, Nat.reduceBEq, Nat.reduceLeDiff, Nat.reduceMul, ttL, tyL, ht])
  refine ⟨by kernel_rfl, ?_⟩
  (refine CallG.ok hE 9000 (hP ▸ m1) rfl rfl ?_ <;> simp only [evX, reduceIte, reduceCtorEq, Nat.reduceLT, Nat.reduceAdd, Nat.reduceEqDiff, Nat.reduceBEq, Nat.reduceLeDiff, Nat.reduceMul, ttL, tyL, ht])
  (refine CallG.ok hE 9000 (hP ▸ m2) rfl rfl ?_ <;> simp only [evX, reduceIte, reduceCtorEq, Nat.reduceLT, Nat.reduceAdd, Nat.reduceEqDiff, Nat.reduceBEq, Nat.reduceLeDiff, Nat.reduceMul, ttL, tyL, ht])
  (refine CallG.ok hE 9000 (hP ▸ m3) rfl rfl ?_ <;> simp only [evX, reduceIte, reduceCtorEq, Nat.reduceLT, Nat.reduceAdd, Nat.reduceEqDiff, Nat.reduceBEq, Nat.reduceLeDiff, Nat.reduceMul, ttL, tyL, ht])
  have c0 : ((0 : Int) == 0) = true := rfl
  have c7 : ((7 : Int) == 7) = true := rfl
  have c1 : (((1 : Nat) : Int) == 1) = true := rfl
  have cx : ((⟨#[120]⟩ : ByteArray) == ⟨#[120]⟩) = true := by decide
  have cy : ((⟨#[121]⟩ : ByteArray) == ⟨#[121]⟩) = true := by decide
  simp only [c0, c1, c7, evX, reduceIte, reduceCtorEq, Nat.reduceLT, Nat.reduceAdd, Nat.reduceEqDiff, Nat.reduceBEq, Nat.reduceLeDiff, Nat.reduceMul, ttL, tyL, ht]
  refine IdxR.by hE 9000 (by decide) rfl rfl ?_
  simp only [evX, reduceIte, reduceCtorEq, Nat.reduceLT, Nat.reduceAdd, Nat.reduceEqDiff, Nat.reduceBEq, Nat.reduceLeDiff, Nat.reduceMul, ttL, tyL, ht]
  refine IdxR.by hE 9000 (by decide) rfl rfl ?_
  simp only [cx, evX, reduceIte, reduceCtorEq, Nat.reduceLT, Nat.reduceAdd, Nat.reduceEqDiff, Nat.reduceBEq, Nat.reduceLeDiff, Nat.reduceMul, ttL, tyL, ht]
  refine IdxR.by hE 9000 (by decide) rfl rfl ?_
  simp only [evX, reduceIte, reduceCtorEq, Nat.reduceLT, Nat.reduceAdd, Nat.reduceEqDiff, Nat.reduceBEq, Nat.reduceLeDiff, Nat.reduceMul, ttL, tyL, ht]
  refine IdxR.by hE 9000 (by decide) rfl rfl ?_
  simp only [cy, evX, reduceIte, reduceCtorEq, Nat.reduceLT, Nat.reduceAdd, Nat.reduceEqDiff, Nat.reduceBEq, Nat.reduceLeDiff, Nat.reduceMul, ttL, tyL, ht]
  exact RetQ.bool (.inr rfl) rfl rfl
theorem few_okM {l : List Named} (bl : namedsB l) (rl : ∀ p ∈ l, namedR p) (h : fewN l 8 = true) : okM l := by
  have := fewN_len h
  refine ⟨by omega, fun p hp => ⟨bl.2 p hp, rl p hp⟩, fun p hp => ?_⟩
  simp only [fewN, Bool.and_eq_true, List.all_eq_true] at h
  have h2 := h.2 p hp
  simp only [lightN, Bool.and_eq_true] at h2
  have := few_len h2.1.1
  omega
theorem mergeN_err (a b : List Named) : (mergeN a b).2 = 0 ∨ (mergeN a b).2 = 1 ∨ (mergeN a b).2 = 6 ∨ (mergeN a b).2 = 7 := by
  unfold mergeN
  split
  · simp
  · split
    · simp
    · split <;> simp
theorem okM_like {l m : List Named} (k : okM l) (hk : ∀ p ∈ m, okN p) (hl : m.length = l.length) (h : ∀ (i : Nat) (hi : i < m.length) (hi' : i < l.length), likeN m[i] l[i]) : okM m := by
  refine ⟨by have := k.n; omega, hk, fun p hp => ?_⟩
  obtain ⟨i, hi, rfl⟩ := List.getElem_of_mem hp
  have := (h i hi (by omega)).2.2.2
  have := k.s _ (List.getElem_mem (show i < l.length by omega))
  omega
theorem carry_ok {l : List Named} (kl : ∀ p ∈ l, okN p) : ∀ {u : List Prim} {m : List Named}, (∀ q ∈ u, okP q) → carryN u l = some m → ∀ p ∈ m, okN p := by
  induction l with
  | nil =>
    intro u m _ h
    simp only [carryN, Option.some.injEq] at h
    subst h; simp
  | cons p l ih =>
    intro u m hu h
    obtain ⟨f, v, m', h1, h2, rfl⟩ := carryN_cons.1 h
    have kp := kl p (by simp)
    obtain ⟨k1, k2⟩ := passL_keep okP_pass h1 hu kp.l
    intro q hq
    rcases List.mem_cons.1 hq with rfl | hq
    · exact ⟨⟨kp.b.1, by rw [show (withL p f).l = f from rfl, (passL_len h1).1]; exact kp.b.2.1, fun z hz => (k1 z hz).1⟩, ⟨kp.r.1, kp.r.2.1, fun z hz => (k1 z hz).2⟩⟩
    · exact ih (fun x hx => kl x (by simp [hx])) k2 h2 q hq
theorem merge_ok {a b : List Named} (ka : okM a) (kb : okM b) (na : a.length ≤ 8) (nb : b.length ≤ 8) : okM (mergeN a b).1 := by
  by_cases h : (mergeN a b).2 = 0
  · obtain ⟨m, _, _, _, l2, c, e⟩ := mergeN_ok h
    have kt := kb.gone (missN a b)
    have km := carry_ok kt.k (turn_P (ka.gone (missN b a)).P) c
    obtain ⟨j1, j2⟩ := carryN_like c
    have kM := okM_like kt km j1 j2
    have hl := part_len (ids := missN a b) b
    rw [e]
    refine ⟨by simp only [List.length_append]; omega, fun p hp => ?_, fun p hp => ?_⟩
    · exact (List.mem_append.1 hp).elim (ka.k p) (kM.k p)
    · exact (List.mem_append.1 hp).elim (ka.s p) (kM.s p)
  · rw [mergeN_nil h]
    exact ⟨by simp, by simp, by simp⟩
theorem law_MergeTells (a : List Named) (ba : namedsB a) (ra : ∀ p ∈ a, namedR p) (b : List Named) (bb : namedsB b) (rb : ∀ p ∈ b, namedR p) : Ok Tryz.prog 5 [namedsA a, namedsA b] (.v (boolA true)) := by
  (refine Ok.code hT hM (fn := Tryz.f5) rfl rfl rfl _ _ rfl rfl (Nat.le_of_ble_eq_true rfl) fun E hE hP ht h0 hrd => ?_; refine Go.run hE 9000 ?_; simp only [Tryz.f5, evX, reduceIte, reduceCtorEq, Nat.reduceLT, Nat.reduceAdd, Nat.reduceEqDiff, Nat.reduceBEq, Nat.reduceLeDiff, Nat.reduceMul, ttL, tyL, ht])
  (refine CallG.ok hE 9000 (hP ▸ ok_awake18) rfl rfl ?_ <;> simp only [evX, reduceIte, reduceCtorEq, Nat.reduceLT, Nat.reduceAdd, Nat.reduceEqDiff, Nat.reduceBEq, Nat.reduceLeDiff, Nat.reduceMul, ttL, tyL, ht])
  (refine CallG.ok hE 9000 (hP ▸ ok_fewN a 8 ba) rfl rfl ?_ <;> simp only [evX, reduceIte, reduceCtorEq, Nat.reduceLT, Nat.reduceAdd, Nat.reduceEqDiff, Nat.reduceBEq, Nat.reduceLeDiff, Nat.reduceMul, ttL, tyL, ht])
  (refine CallG.ok hE 9000 (hP ▸ ok_fewN b 8 bb) rfl rfl ?_ <;> simp only [evX, reduceIte, reduceCtorEq, Nat.reduceLT, Nat.reduceAdd, Nat.reduceEqDiff, Nat.reduceBEq, Nat.reduceLeDiff, Nat.reduceMul, ttL, tyL, ht])
  cases h1 : fewN a 8 <;> simp only [evX, reduceIte, reduceCtorEq, Nat.reduceLT, Nat.reduceAdd, Nat.reduceEqDiff, Nat.reduceBEq, Nat.reduceLeDiff, Nat.reduceMul, ttL, tyL, ht, Bool.not_false, Bool.not_true]
  · exact RetQ.bool (.inr rfl) rfl rfl
  cases h2 : fewN b 8 <;> simp only [evX, reduceIte, reduceCtorEq, Nat.reduceLT, Nat.reduceAdd, Nat.reduceEqDiff, Nat.reduceBEq, Nat.reduceLeDiff, Nat.reduceMul, ttL, tyL, ht, Bool.not_false, Bool.not_true]
  · exact RetQ.bool (.inr rfl) rfl rfl
  have ka := few_okM ba ra h1
  have kb := few_okM bb rb h2
  have na := fewN_len h1
  have nb := fewN_len h2
  have km := merge_ok ka kb (by omega) (by omega)
  have hlb : (idsN b).length = b.length := by simp [idsN]
  have ln2 : (missN a b).length ≤ b.length := by rw [← hlb]; exact List.length_filter_le _ _
  (refine CallG.ok hE 9000 (hP ▸ ok_Merge a b ka kb) rfl rfl ?_ <;> simp only [evX, reduceIte, reduceCtorEq, Nat.reduceLT, Nat.reduceAdd, Nat.reduceEqDiff, Nat.reduceBEq, Nat.reduceLeDiff, Nat.reduceMul, ttL, tyL, ht])
  (refine CallG.ok hE 9000 (hP ▸ ok_ref18Merge a b ka kb) rfl rfl ?_ <;> simp only [evX, reduceIte, reduceCtorEq, Nat.reduceLT, Nat.reduceAdd, Nat.reduceEqDiff, Nat.reduceBEq, Nat.reduceLeDiff, Nat.reduceMul, ttL, tyL, ht])
  (refine CallG.ok hE 9000 (hP ▸ ok_ref14List (mergeN a b).1 (mergeN a b).1 km.B) rfl rfl ?_ <;> simp only [evX, reduceIte, reduceCtorEq, Nat.reduceLT, Nat.reduceAdd, Nat.reduceEqDiff, Nat.reduceBEq, Nat.reduceLeDiff, Nat.reduceMul, ttL, tyL, ht])
  (refine CallG.ok hE 9000 (hP ▸ ok_Missing a b (by omega) (by omega) ka.R kb.R) rfl rfl ?_ <;> simp only [evX, reduceIte, reduceCtorEq, Nat.reduceLT, Nat.reduceAdd, Nat.reduceEqDiff, Nat.reduceBEq, Nat.reduceLeDiff, Nat.reduceMul, ttL, tyL, ht])
  (refine CallG.ok hE 9000 (hP ▸ ok_ref18Missing a b (by omega) (by omega)) rfl rfl ?_ <;> simp only [evX, reduceIte, reduceCtorEq, Nat.reduceLT, Nat.reduceAdd, Nat.reduceEqDiff, Nat.reduceBEq, Nat.reduceLeDiff, Nat.reduceMul, ttL, tyL, ht])
  (refine CallG.ok hE 9000 (hP ▸ ok_ref16Same (missN a b) (missN a b) (by omega)) rfl rfl ?_ <;> simp only [evX, reduceIte, reduceCtorEq, Nat.reduceLT, Nat.reduceAdd, Nat.reduceEqDiff, Nat.reduceBEq, Nat.reduceLeDiff, Nat.reduceMul, ttL, tyL, ht])
  simp only [all2_refl_of _ sameN_refl, all2_refl_of _ idEq_refl, beq_self_eq_true, evX, reduceIte, reduceCtorEq, Nat.reduceLT, Nat.reduceAdd, Nat.reduceEqDiff, Nat.reduceBEq, Nat.reduceLeDiff, Nat.reduceMul, ttL, tyL, ht]
  exact RetQ.bool (.inr rfl) rfl rfl
theorem law_MergeSelf (a : List Named) (ba : namedsB a) (ra : ∀ p ∈ a, namedR p) (n : Int) (rn : i64 n) : Ok Tryz.prog 6 [namedsA a, intA n] (.v (boolA true)) := by
  (refine Ok.code hT hM (fn := Tryz.f6) rfl rfl rfl _ _ rfl rfl (Nat.le_of_ble_eq_true rfl) fun E hE hP ht h0 hrd => ?_; refine Go.run hE 9000 ?_; simp only [Tryz.f6, evX, reduceIte, reduceCtorEq, Nat.reduceLT, Nat.reduceAdd, Nat.reduceEqDiff, Nat.reduceBEq, Nat.reduceLeDiff, Nat.reduceMul, ttL, tyL, ht])
  (refine CallG.ok hE 9000 (hP ▸ ok_awake18) rfl rfl ?_ <;> simp only [evX, reduceIte, reduceCtorEq, Nat.reduceLT, Nat.reduceAdd, Nat.reduceEqDiff, Nat.reduceBEq, Nat.reduceLeDiff, Nat.reduceMul, ttL, tyL, ht])
  (refine CallG.ok hE 9000 (hP ▸ ok_fewN a 8 ba) rfl rfl ?_ <;> simp only [evX, reduceIte, reduceCtorEq, Nat.reduceLT, Nat.reduceAdd, Nat.reduceEqDiff, Nat.reduceBEq, Nat.reduceLeDiff, Nat.reduceMul, ttL, tyL, ht])
  cases h1 : fewN a 8 <;> simp only [evX, reduceIte, reduceCtorEq, Nat.reduceLT, Nat.reduceAdd, Nat.reduceEqDiff, Nat.reduceBEq, Nat.reduceLeDiff, Nat.reduceMul, ttL, tyL, ht, Bool.not_false, Bool.not_true]
  · exact RetQ.bool (.inr rfl) rfl rfl
  have ka := few_okM ba ra h1
  have na := fewN_len h1
  ((first | refine SelF.byN (fun hb => ?_) (fun hb => ?_) | refine SelF.by (fun hb => ?_) (fun hb => ?_)) <;> simp only [hb, evX, reduceIte, reduceCtorEq, Nat.reduceLT, Nat.reduceAdd, Nat.reduceEqDiff, Nat.reduceBEq, Nat.reduceLeDiff, Nat.reduceMul, ttL, tyL, ht])
  rotate_left
  · exact RetQ.bool (.inr rfl) rfl rfl
  have hn0 : 0 ≤ n := by simp at hb; omega
  ((first | refine SelF.byN (fun hb => ?_) (fun hb => ?_) | refine SelF.by (fun hb => ?_) (fun hb => ?_)) <;> simp only [hb, evX, reduceIte, reduceCtorEq, Nat.reduceLT, Nat.reduceAdd, Nat.reduceEqDiff, Nat.reduceBEq, Nat.reduceLeDiff, Nat.reduceMul, ttL, tyL, ht])
  · exact RetQ.bool (.inr rfl) rfl rfl
  have hn1 : n ≤ a.length := by simp at hb; omega
  obtain ⟨k, rfl⟩ : ∃ k : Nat, n = k := ⟨n.toNat, by omega⟩
  have kt : okM (a.take k) := ⟨by simp; omega, fun p hp => ka.k p (List.mem_of_mem_take hp), fun p hp => ka.s p (List.mem_of_mem_take hp)⟩
  have hsl : List.drop (Int.toNat 0) (List.take ((k : Int)).toNat (namedsC a)) = namedsC (a.take k) := by rw [Int.toNat_natCast, Int.toNat_zero, List.drop_zero]; exact List.map_take.symm
  have c1 := ok_Merge a a ka ka
  have c2 := ok_Merge a (a.take k) ka kt
  have c3 := ok_Merge (a.take k) a kt ka
  have c4 := ok_ref14List a a ba
  rw [all2_refl_of _ sameN_refl] at c4
  cases hta : twiceN a
  · rw [merge_self hta] at c1
    rw [(merge_take hta).1] at c2
    rw [(merge_take hta).2] at c3
    (refine CallG.ok hE 9000 (hP ▸ c1) rfl rfl ?_ <;> simp only [evX, reduceIte, reduceCtorEq, Nat.reduceLT, Nat.reduceAdd, Nat.reduceEqDiff, Nat.reduceBEq, Nat.reduceLeDiff, Nat.reduceMul, ttL, tyL, ht])
    refine SlcR.by hE 9000 (by simp [rowLen]) (by simp) (by simp) (by simp; omega) ?_
    simp only [evX, reduceIte, reduceCtorEq, Nat.reduceLT, Nat.reduceAdd, Nat.reduceEqDiff, Nat.reduceBEq, Nat.reduceLeDiff, Nat.reduceMul, ttL, tyL, ht]
    rw [hsl]
    (refine CallG.ok hE 9000 (hP ▸ c2) rfl rfl ?_ <;> simp only [evX, reduceIte, reduceCtorEq, Nat.reduceLT, Nat.reduceAdd, Nat.reduceEqDiff, Nat.reduceBEq, Nat.reduceLeDiff, Nat.reduceMul, ttL, tyL, ht])
    refine SlcR.by hE 9000 (by simp [rowLen]) (by simp) (by simp) (by simp; omega) ?_
    simp only [evX, reduceIte, reduceCtorEq, Nat.reduceLT, Nat.reduceAdd, Nat.reduceEqDiff, Nat.reduceBEq, Nat.reduceLeDiff, Nat.reduceMul, ttL, tyL, ht]
    rw [hsl]
    (refine CallG.ok hE 9000 (hP ▸ c3) rfl rfl ?_ <;> simp only [evX, reduceIte, reduceCtorEq, Nat.reduceLT, Nat.reduceAdd, Nat.reduceEqDiff, Nat.reduceBEq, Nat.reduceLeDiff, Nat.reduceMul, ttL, tyL, ht])
    have c0 : ((0 : Int) != 0) = false := rfl
    have c0' : ((0 : Int) == 0) = true := rfl
    simp only [c0, evX, reduceIte, reduceCtorEq, Nat.reduceLT, Nat.reduceAdd, Nat.reduceEqDiff, Nat.reduceBEq, Nat.reduceLeDiff, Nat.reduceMul, ttL, tyL, ht]
    (refine CallG.ok hE 9000 (hP ▸ c4) rfl rfl ?_ <;> simp only [evX, reduceIte, reduceCtorEq, Nat.reduceLT, Nat.reduceAdd, Nat.reduceEqDiff, Nat.reduceBEq, Nat.reduceLeDiff, Nat.reduceMul, ttL, tyL, ht])
    (refine CallG.ok hE 9000 (hP ▸ c4) rfl rfl ?_ <;> simp only [evX, reduceIte, reduceCtorEq, Nat.reduceLT, Nat.reduceAdd, Nat.reduceEqDiff, Nat.reduceBEq, Nat.reduceLeDiff, Nat.reduceMul, ttL, tyL, ht])
    (refine CallG.ok hE 9000 (hP ▸ c4) rfl rfl ?_ <;> simp only [evX, reduceIte, reduceCtorEq, Nat.reduceLT, Nat.reduceAdd, Nat.reduceEqDiff, Nat.reduceBEq, Nat.reduceLeDiff, Nat.reduceMul, ttL, tyL, ht])
    try simp only [c0', evX, reduceIte, reduceCtorEq, Nat.reduceLT, Nat.reduceAdd, Nat.reduceEqDiff, Nat.reduceBEq, Nat.reduceLeDiff, Nat.reduceMul, ttL, tyL, ht]
    exact RetQ.bool (.inr rfl) rfl rfl
  · have e : mergeN a a = ([], 1) := by rw [mergeN, if_pos (.inl hta)]
    rw [e] at c1
    (refine CallG.ok hE 9000 (hP ▸ c1) rfl rfl ?_ <;> simp only [evX, reduceIte, reduceCtorEq, Nat.reduceLT, Nat.reduceAdd, Nat.reduceEqDiff, Nat.reduceBEq, Nat.reduceLeDiff, Nat.reduceMul, ttL, tyL, ht])
    refine SlcR.by hE 9000 (by simp [rowLen]) (by simp) (by simp) (by simp; omega) ?_
    simp only [evX, reduceIte, reduceCtorEq, Nat.reduceLT, Nat.reduceAdd, Nat.reduceEqDiff, Nat.reduceBEq, Nat.reduceLeDiff, Nat.reduceMul, ttL, tyL, ht]
    rw [hsl]
    (refine CallG.ok hE 9000 (hP ▸ c2) rfl rfl ?_ <;> simp only [evX, reduceIte, reduceCtorEq, Nat.reduceLT, Nat.reduceAdd, Nat.reduceEqDiff, Nat.reduceBEq, Nat.reduceLeDiff, Nat.reduceMul, ttL, tyL, ht])
    refine SlcR.by hE 9000 (by simp [rowLen]) (by simp) (by simp) (by simp; omega) ?_
    simp only [evX, reduceIte, reduceCtorEq, Nat.reduceLT, Nat.reduceAdd, Nat.reduceEqDiff, Nat.reduceBEq, Nat.reduceLeDiff, Nat.reduceMul, ttL, tyL, ht]
    rw [hsl]
    (refine CallG.ok hE 9000 (hP ▸ c3) rfl rfl ?_ <;> simp only [evX, reduceIte, reduceCtorEq, Nat.reduceLT, Nat.reduceAdd, Nat.reduceEqDiff, Nat.reduceBEq, Nat.reduceLeDiff, Nat.reduceMul, ttL, tyL, ht])
    have c0 : ((1 : Int) != 0) = true := rfl
    simp only [c0, evX, reduceIte, reduceCtorEq, Nat.reduceLT, Nat.reduceAdd, Nat.reduceEqDiff, Nat.reduceBEq, Nat.reduceLeDiff, Nat.reduceMul, ttL, tyL, ht]
    exact RetQ.bool (.inr rfl) rfl rfl
end Go.Proofs.YtmfbcgheffdghaaGreat

/- Chapter 18's laws: either way round; all of both. -/
namespace Go.Proofs.YtmfbcgheffdghaaGreat
open Go.Vam Go.Qm
set_option linter.unusedVariables false
set_option linter.unusedSimpArgs false
set_option maxRecDepth 8000
set_option maxHeartbeats 4000000

theorem apply0 {l : List Named} (k : okM l) : Ok Tryz.prog 16 [treeA [], namedsA l] (.v (.tup [treeA (runL [] (allN l)).1, intA (runL [] (allN l)).2])) :=
  ok_patchApply [] l (a := 0) (b := 0) ⟨by simp, by simp⟩ k.B (fun p hp => (k.k p hp).r) (by have := k.all; omega) (by decide) (by decide)
theorem tree0 {l : List Named} (k : okM l) : treeB (runL [] (allN l)).1 :=
  (runL_N (t := []) (a := 0) (b := 0) ⟨by simp, by simp⟩ (allN_R fun p hp => (k.k p hp).r)).B (Nat.le_trans (m := 1000 * 40) (Nat.mul_le_mul_right _ (by have := k.all; omega)) (by decide)) (Nat.le_trans (m := 200000 * 16) (Nat.mul_le_mul_right _ (by have := k.all; omega)) (by decide))
theorem law_MergeTurns (a : List Named) (ba : namedsB a) (ra : ∀ p ∈ a, namedR p) (b : List Named) (bb : namedsB b) (rb : ∀ p ∈ b, namedR p) : Ok Tryz.prog 4 [namedsA a, namedsA b] (.v (boolA true)) := by
  (refine Ok.code hT hM (fn := Tryz.f4) rfl rfl rfl _ _ rfl rfl (Nat.le_of_ble_eq_true rfl) fun E hE hP ht h0 hrd => ?_; refine Go.run hE 9000 ?_; simp only [Tryz.f4, evX, reduceIte, reduceCtorEq, Nat.reduceLT, Nat.reduceAdd, Nat.reduceEqDiff, Nat.reduceBEq, Nat.reduceLeDiff, Nat.reduceMul, ttL, tyL, ht])
  (refine CallG.ok hE 9000 (hP ▸ ok_awake18) rfl rfl ?_ <;> simp only [evX, reduceIte, reduceCtorEq, Nat.reduceLT, Nat.reduceAdd, Nat.reduceEqDiff, Nat.reduceBEq, Nat.reduceLeDiff, Nat.reduceMul, ttL, tyL, ht])
  (refine CallG.ok hE 9000 (hP ▸ ok_fewN a 8 ba) rfl rfl ?_ <;> simp only [evX, reduceIte, reduceCtorEq, Nat.reduceLT, Nat.reduceAdd, Nat.reduceEqDiff, Nat.reduceBEq, Nat.reduceLeDiff, Nat.reduceMul, ttL, tyL, ht])
  (refine CallG.ok hE 9000 (hP ▸ ok_fewN b 8 bb) rfl rfl ?_ <;> simp only [evX, reduceIte, reduceCtorEq, Nat.reduceLT, Nat.reduceAdd, Nat.reduceEqDiff, Nat.reduceBEq, Nat.reduceLeDiff, Nat.reduceMul, ttL, tyL, ht])
  cases h1 : fewN a 8 <;> simp only [evX, reduceIte, reduceCtorEq, Nat.reduceLT, Nat.reduceAdd, Nat.reduceEqDiff, Nat.reduceBEq, Nat.reduceLeDiff, Nat.reduceMul, ttL, tyL, ht, Bool.not_false, Bool.not_true]
  · exact RetQ.bool (.inr rfl) rfl rfl
  cases h2 : fewN b 8 <;> simp only [evX, reduceIte, reduceCtorEq, Nat.reduceLT, Nat.reduceAdd, Nat.reduceEqDiff, Nat.reduceBEq, Nat.reduceLeDiff, Nat.reduceMul, ttL, tyL, ht, Bool.not_false, Bool.not_true]
  · exact RetQ.bool (.inr rfl) rfl rfl
  have ka := few_okM ba ra h1
  have kb := few_okM bb rb h2
  have na := fewN_len h1
  have nb := fewN_len h2
  have kx := merge_ok ka kb (by omega) (by omega)
  have ky := merge_ok kb ka (by omega) (by omega)
  have hla : (idsN a).length = a.length := by simp [idsN]
  have hlb : (idsN b).length = b.length := by simp [idsN]
  have ln1 : (missN b a).length ≤ a.length := by rw [← hla]; exact List.length_filter_le _ _
  have ln2 : (missN a b).length ≤ b.length := by rw [← hlb]; exact List.length_filter_le _ _
  have m2 := ok_Merge b a kb ka
  rw [← merge_err a b] at m2
  (refine CallG.ok hE 9000 (hP ▸ ok_Merge a b ka kb) rfl rfl ?_ <;> simp only [evX, reduceIte, reduceCtorEq, Nat.reduceLT, Nat.reduceAdd, Nat.reduceEqDiff, Nat.reduceBEq, Nat.reduceLeDiff, Nat.reduceMul, ttL, tyL, ht])
  (refine CallG.ok hE 9000 (hP ▸ m2) rfl rfl ?_ <;> simp only [evX, reduceIte, reduceCtorEq, Nat.reduceLT, Nat.reduceAdd, Nat.reduceEqDiff, Nat.reduceBEq, Nat.reduceLeDiff, Nat.reduceMul, ttL, tyL, ht])
  have e1 : ((mergeN a b).2 != (mergeN a b).2) = false := by simp
  simp only [e1, evX, reduceIte, reduceCtorEq, Nat.reduceLT, Nat.reduceAdd, Nat.reduceEqDiff, Nat.reduceBEq, Nat.reduceLeDiff, Nat.reduceMul, ttL, tyL, ht]
  cases hne : ((mergeN a b).2 != 0) <;> simp only [evX, reduceIte, reduceCtorEq, Nat.reduceLT, Nat.reduceAdd, Nat.reduceEqDiff, Nat.reduceBEq, Nat.reduceLeDiff, Nat.reduceMul, ttL, tyL, ht]
  rotate_left
  · exact RetQ.bool (.inr rfl) rfl (by simp)
  have h0m : (mergeN a b).2 = 0 := by simpa using hne
  have kc := ka.stay (missN b a)
  have kd := kb.stay (missN a b)
  (refine CallG.ok hE 9000 (hP ▸ ok_Missing b a (by omega) (by omega) kb.R ka.R) rfl rfl ?_ <;> simp only [evX, reduceIte, reduceCtorEq, Nat.reduceLT, Nat.reduceAdd, Nat.reduceEqDiff, Nat.reduceBEq, Nat.reduceLeDiff, Nat.reduceMul, ttL, tyL, ht])
  (refine CallG.ok hE 9000 (hP ▸ ok_Part a (missN b a) (by omega) ka.k (by omega)) rfl rfl ?_ <;> simp only [evX, reduceIte, reduceCtorEq, Nat.reduceLT, Nat.reduceAdd, Nat.reduceEqDiff, Nat.reduceBEq, Nat.reduceLeDiff, Nat.reduceMul, ttL, tyL, ht])
  (refine CallG.ok hE 9000 (hP ▸ ok_Missing a b (by omega) (by omega) ka.R kb.R) rfl rfl ?_ <;> simp only [evX, reduceIte, reduceCtorEq, Nat.reduceLT, Nat.reduceAdd, Nat.reduceEqDiff, Nat.reduceBEq, Nat.reduceLeDiff, Nat.reduceMul, ttL, tyL, ht])
  (refine CallG.ok hE 9000 (hP ▸ ok_Part b (missN a b) (by omega) kb.k (by omega)) rfl rfl ?_ <;> simp only [evX, reduceIte, reduceCtorEq, Nat.reduceLT, Nat.reduceAdd, Nat.reduceEqDiff, Nat.reduceBEq, Nat.reduceLeDiff, Nat.reduceMul, ttL, tyL, ht])
  (refine CallG.ok hE 9000 (hP ▸ apply0 kc) rfl rfl ?_ <;> simp only [evX, reduceIte, reduceCtorEq, Nat.reduceLT, Nat.reduceAdd, Nat.reduceEqDiff, Nat.reduceBEq, Nat.reduceLeDiff, Nat.reduceMul, ttL, tyL, ht])
  (refine CallG.ok hE 9000 (hP ▸ apply0 kd) rfl rfl ?_ <;> simp only [evX, reduceIte, reduceCtorEq, Nat.reduceLT, Nat.reduceAdd, Nat.reduceEqDiff, Nat.reduceBEq, Nat.reduceLeDiff, Nat.reduceMul, ttL, tyL, ht])
  (refine CallG.ok hE 9000 (hP ▸ apply0 ka) rfl rfl ?_ <;> simp only [evX, reduceIte, reduceCtorEq, Nat.reduceLT, Nat.reduceAdd, Nat.reduceEqDiff, Nat.reduceBEq, Nat.reduceLeDiff, Nat.reduceMul, ttL, tyL, ht])
  (refine CallG.ok hE 9000 (hP ▸ apply0 kb) rfl rfl ?_ <;> simp only [evX, reduceIte, reduceCtorEq, Nat.reduceLT, Nat.reduceAdd, Nat.reduceEqDiff, Nat.reduceBEq, Nat.reduceLeDiff, Nat.reduceMul, ttL, tyL, ht])
  cases q1 : ((runL [] (allN (partN a (missN b a)).1)).2 != 0) <;> simp only [evX, reduceIte, reduceCtorEq, Nat.reduceLT, Nat.reduceAdd, Nat.reduceEqDiff, Nat.reduceBEq, Nat.reduceLeDiff, Nat.reduceMul, ttL, tyL, ht]
  rotate_left
  · exact RetQ.bool (.inr rfl) rfl rfl
  cases q2 : ((runL [] (allN (partN b (missN a b)).1)).2 != 0) <;> simp only [evX, reduceIte, reduceCtorEq, Nat.reduceLT, Nat.reduceAdd, Nat.reduceEqDiff, Nat.reduceBEq, Nat.reduceLeDiff, Nat.reduceMul, ttL, tyL, ht]
  rotate_left
  · exact RetQ.bool (.inr rfl) rfl rfl
  cases q3 : ((runL [] (allN a)).2 != 0) <;> simp only [evX, reduceIte, reduceCtorEq, Nat.reduceLT, Nat.reduceAdd, Nat.reduceEqDiff, Nat.reduceBEq, Nat.reduceLeDiff, Nat.reduceMul, ttL, tyL, ht]
  rotate_left
  · exact RetQ.bool (.inr rfl) rfl rfl
  cases q4 : ((runL [] (allN b)).2 != 0) <;> simp only [evX, reduceIte, reduceCtorEq, Nat.reduceLT, Nat.reduceAdd, Nat.reduceEqDiff, Nat.reduceBEq, Nat.reduceLeDiff, Nat.reduceMul, ttL, tyL, ht]
  rotate_left
  · exact RetQ.bool (.inr rfl) rfl rfl
  have p1 : (runL [] (allN (partN a (missN b a)).1)).2 = 0 := by simpa using q1
  have p2 : (runL [] (allN (partN b (missN a b)).1)).2 = 0 := by simpa using q2
  have p3 : (runL [] (allN a)).2 = 0 := by simpa using q3
  have p4 : (runL [] (allN b)).2 = 0 := by simpa using q4
  (refine CallG.ok hE 9000 (hP ▸ ok_treeSame (runL [] (allN (partN a (missN b a)).1)).1 (runL [] (allN (partN b (missN a b)).1)).1 (tree0 kc)) rfl rfl ?_ <;> simp only [evX, reduceIte, reduceCtorEq, Nat.reduceLT, Nat.reduceAdd, Nat.reduceEqDiff, Nat.reduceBEq, Nat.reduceLeDiff, Nat.reduceMul, ttL, tyL, ht])
  cases q5 : treeEq (runL [] (allN (partN a (missN b a)).1)).1 (runL [] (allN (partN b (missN a b)).1)).1 <;> simp only [evX, reduceIte, reduceCtorEq, Nat.reduceLT, Nat.reduceAdd, Nat.reduceEqDiff, Nat.reduceBEq, Nat.reduceLeDiff, Nat.reduceMul, ttL, tyL, ht, Bool.not_false, Bool.not_true]
  · exact RetQ.bool (.inr rfl) rfl rfl
  have p5 := treeEq_iff.1 q5
  have r1 : runL [] (allN (partN a (missN b a)).1) = ((runL [] (allN (partN a (missN b a)).1)).1, 0) := Prod.ext rfl p1
  have r2 : runL [] (allN (partN b (missN a b)).1) = ((runL [] (allN (partN a (missN b a)).1)).1, 0) := Prod.ext p5.symm p2
  have t1 := merge_run h0m r1 r2 p3 p4
  have t2 := merge_zero h0m r1 r2 p3 p4
  have c1 := apply0 kx
  have c2 := apply0 ky
  have tB := tree0 kx
  rw [← t1] at c2
  rw [t2] at c1 c2
  (refine CallG.ok hE 9000 (hP ▸ c1) rfl rfl ?_ <;> simp only [evX, reduceIte, reduceCtorEq, Nat.reduceLT, Nat.reduceAdd, Nat.reduceEqDiff, Nat.reduceBEq, Nat.reduceLeDiff, Nat.reduceMul, ttL, tyL, ht])
  (refine CallG.ok hE 9000 (hP ▸ c2) rfl rfl ?_ <;> simp only [evX, reduceIte, reduceCtorEq, Nat.reduceLT, Nat.reduceAdd, Nat.reduceEqDiff, Nat.reduceBEq, Nat.reduceLeDiff, Nat.reduceMul, ttL, tyL, ht])
  have z1 : ((0 : Int) == 0) = true := rfl
  have z2 : ((0 : Int) != 0) = false := rfl
  simp only [z1, z2, evX, reduceIte, reduceCtorEq, Nat.reduceLT, Nat.reduceAdd, Nat.reduceEqDiff, Nat.reduceBEq, Nat.reduceLeDiff, Nat.reduceMul, ttL, tyL, ht]
  (refine CallG.ok hE 9000 (hP ▸ ok_treeSame (runL [] (allN (mergeN a b).1)).1 (runL [] (allN (mergeN a b).1)).1 tB) rfl rfl ?_ <;> simp only [evX, reduceIte, reduceCtorEq, Nat.reduceLT, Nat.reduceAdd, Nat.reduceEqDiff, Nat.reduceBEq, Nat.reduceLeDiff, Nat.reduceMul, ttL, tyL, ht])
  exact RetQ.bool (.inr rfl) rfl (treeEq_refl _)
theorem law_MergeAll (a : List Named) (ba : namedsB a) (ra : ∀ p ∈ a, namedR p) (b : List Named) (bb : namedsB b) (rb : ∀ p ∈ b, namedR p) : Ok Tryz.prog 3 [namedsA a, namedsA b] (.v (boolA true)) := by
  (refine Ok.code hT hM (fn := Tryz.f3) rfl rfl rfl _ _ rfl rfl (Nat.le_of_ble_eq_true rfl) fun E hE hP ht h0 hrd => ?_; refine Go.run hE 9000 ?_; simp only [Tryz.f3, evX, reduceIte, reduceCtorEq, Nat.reduceLT, Nat.reduceAdd, Nat.reduceEqDiff, Nat.reduceBEq, Nat.reduceLeDiff, Nat.reduceMul, ttL, tyL, ht])
  (refine CallG.ok hE 9000 (hP ▸ ok_awake18) rfl rfl ?_ <;> simp only [evX, reduceIte, reduceCtorEq, Nat.reduceLT, Nat.reduceAdd, Nat.reduceEqDiff, Nat.reduceBEq, Nat.reduceLeDiff, Nat.reduceMul, ttL, tyL, ht])
  (refine CallG.ok hE 9000 (hP ▸ ok_fewN a 8 ba) rfl rfl ?_ <;> simp only [evX, reduceIte, reduceCtorEq, Nat.reduceLT, Nat.reduceAdd, Nat.reduceEqDiff, Nat.reduceBEq, Nat.reduceLeDiff, Nat.reduceMul, ttL, tyL, ht])
  (refine CallG.ok hE 9000 (hP ▸ ok_fewN b 8 bb) rfl rfl ?_ <;> simp only [evX, reduceIte, reduceCtorEq, Nat.reduceLT, Nat.reduceAdd, Nat.reduceEqDiff, Nat.reduceBEq, Nat.reduceLeDiff, Nat.reduceMul, ttL, tyL, ht])
  cases h1 : fewN a 8 <;> simp only [evX, reduceIte, reduceCtorEq, Nat.reduceLT, Nat.reduceAdd, Nat.reduceEqDiff, Nat.reduceBEq, Nat.reduceLeDiff, Nat.reduceMul, ttL, tyL, ht, Bool.not_false, Bool.not_true]
  · exact RetQ.bool (.inr rfl) rfl rfl
  cases h2 : fewN b 8 <;> simp only [evX, reduceIte, reduceCtorEq, Nat.reduceLT, Nat.reduceAdd, Nat.reduceEqDiff, Nat.reduceBEq, Nat.reduceLeDiff, Nat.reduceMul, ttL, tyL, ht, Bool.not_false, Bool.not_true]
  · exact RetQ.bool (.inr rfl) rfl rfl
  have ka := few_okM ba ra h1
  have kb := few_okM bb rb h2
  have na := fewN_len h1
  have nb := fewN_len h2
  have kx := merge_ok ka kb (by omega) (by omega)
  have hlb : (idsN b).length = b.length := by simp [idsN]
  have ln2 : (missN a b).length ≤ b.length := by rw [← hlb]; exact List.length_filter_le _ _
  (refine CallG.ok hE 9000 (hP ▸ ok_Merge a b ka kb) rfl rfl ?_ <;> simp only [evX, reduceIte, reduceCtorEq, Nat.reduceLT, Nat.reduceAdd, Nat.reduceEqDiff, Nat.reduceBEq, Nat.reduceLeDiff, Nat.reduceMul, ttL, tyL, ht])
  cases hne : ((mergeN a b).2 != 0) <;> simp only [evX, reduceIte, reduceCtorEq, Nat.reduceLT, Nat.reduceAdd, Nat.reduceEqDiff, Nat.reduceBEq, Nat.reduceLeDiff, Nat.reduceMul, ttL, tyL, ht]
  rotate_left
  · have h0m : (mergeN a b).2 ≠ 0 := by simpa using hne
    exact RetQ.bool (.inr rfl) rfl (by rw [mergeN_nil h0m]; rfl)
  have h0m : (mergeN a b).2 = 0 := by simpa using hne
  have hl := merge_len h0m
  have hhas := merge_has h0m
  have hag := merge_again h0m
  obtain ⟨m, hda, hdb, _, l2, cm, em⟩ := mergeN_ok h0m
  have e1 : (mergeN a b).1 = a ++ m := by rw [em]
  have nx := kx.n
  have kxb := ok_Merge (mergeN a b).1 b kx kb
  rw [e1] at hl hhas hag kx nx kxb ⊢
  have f1 : decide ((((a ++ m).length : Nat) : Int) < (a.length : Int)) = false := by simp; omega
  have f2 : ((((a ++ m).length : Nat) : Int) != IntKind.i64.wrap ((a.length : Int) + ((missN a b).length : Int))) = false := by
    rw [wrap64 (by omega) (by omega), hl]; simp
  have hta : twiceN a = false := twiceN_not.2 hda
  have c4 := ok_ref14List a a ba
  rw [all2_refl_of _ sameN_refl] at c4
  have kn : okM [] := ⟨by simp, by simp, by simp⟩
  have c5 := ok_Merge a [] ka kn
  rw [merge_none hta] at c5
  simp only [f1, evX, reduceIte, reduceCtorEq, Nat.reduceLT, Nat.reduceAdd, Nat.reduceEqDiff, Nat.reduceBEq, Nat.reduceLeDiff, Nat.reduceMul, ttL, tyL, ht, Bool.not_false]
  (refine CallG.ok hE 9000 (hP ▸ ok_Missing a b (by omega) (by omega) ka.R kb.R) rfl rfl ?_ <;> simp only [evX, reduceIte, reduceCtorEq, Nat.reduceLT, Nat.reduceAdd, Nat.reduceEqDiff, Nat.reduceBEq, Nat.reduceLeDiff, Nat.reduceMul, ttL, tyL, ht])
  simp only [f2, evX, reduceIte, reduceCtorEq, Nat.reduceLT, Nat.reduceAdd, Nat.reduceEqDiff, Nat.reduceBEq, Nat.reduceLeDiff, Nat.reduceMul, ttL, tyL, ht]
  refine SlcR.by hE 9000 (by intro row hrow; obtain ⟨x, _, rfl⟩ := List.mem_map.1 hrow; rfl) (by simp) (by simp) (by simp; omega) ?_
  simp only [evX, reduceIte, reduceCtorEq, Nat.reduceLT, Nat.reduceAdd, Nat.reduceEqDiff, Nat.reduceBEq, Nat.reduceLeDiff, Nat.reduceMul, ttL, tyL, ht]
  rw [show List.drop (Int.toNat 0) (List.take ((a.length : Int)).toNat (namedsC (a ++ m))) = namedsC a by rw [Int.toNat_natCast, Int.toNat_zero, List.drop_zero, namedsC, List.map_append, List.take_left' (by simp)]]
  (refine CallG.ok hE 9000 (hP ▸ c4) rfl rfl ?_ <;> simp only [evX, reduceIte, reduceCtorEq, Nat.reduceLT, Nat.reduceAdd, Nat.reduceEqDiff, Nat.reduceBEq, Nat.reduceLeDiff, Nat.reduceMul, ttL, tyL, ht])
  refine Loop.by hE (ι := {i : Nat // i ≤ b.length}) (fun i => ⟨116, [(0, namedsA a), (1, namedsA b), (8, namedsA (a ++ m)), (10, boolA true), (11, intA (i.1 : Int))], [], [], []⟩) (fun i => b.length - i.1) ⟨0, by simp⟩ 9000 ⟨[], Wk.of rfl (by simp) (by rw [h0]; trivial) (by simp [wkT, okA, wkP, cloE, Vam.look]) (by simp [wkBs]) (by simp) (by simp)⟩ (by simp [h0]) ?_
  rintro ⟨i, hi⟩
  have hi : i ≤ b.length := hi
  simp only [evX, reduceIte, reduceCtorEq, Nat.reduceLT, Nat.reduceAdd, Nat.reduceEqDiff, Nat.reduceBEq, Nat.reduceLeDiff, Nat.reduceMul, ttL, tyL, ht]
  ((first | refine SelF.byN (fun hb => ?_) (fun hb => ?_) | refine SelF.by (fun hb => ?_) (fun hb => ?_)) <;> simp only [hb, evX, reduceIte, reduceCtorEq, Nat.reduceLT, Nat.reduceAdd, Nat.reduceEqDiff, Nat.reduceBEq, Nat.reduceLeDiff, Nat.reduceMul, ttL, tyL, ht])
  · simp only [decide_eq_true_eq] at hb
    have hlt : i < b.length := by omega
    have hh : hasI (a ++ m) b[i].id = true := hasI_iff.2 (hhas _ (List.mem_map.2 ⟨b[i], List.getElem_mem hlt, rfl⟩))
    refine IdxR.nat hE 9000 hlt rfl ?_
    simp only [evX, reduceIte, reduceCtorEq, Nat.reduceLT, Nat.reduceAdd, Nat.reduceEqDiff, Nat.reduceBEq, Nat.reduceLeDiff, Nat.reduceMul, ttL, tyL, ht]
    (refine CallG.ok hE 9000 (hP ▸ ok_Find (a ++ m) b[i].id (by omega)) rfl rfl ?_ <;> simp only [evX, reduceIte, reduceCtorEq, Nat.reduceLT, Nat.reduceAdd, Nat.reduceEqDiff, Nat.reduceBEq, Nat.reduceLeDiff, Nat.reduceMul, ttL, tyL, ht])
    simp only [findN_lt, hh, evX, reduceIte, reduceCtorEq, Nat.reduceLT, Nat.reduceAdd, Nat.reduceEqDiff, Nat.reduceBEq, Nat.reduceLeDiff, Nat.reduceMul, ttL, tyL, ht, Bool.not_true]
    refine ⟨⟨i + 1, by omega⟩, [], Wk.of rfl (by simp) (by rw [h0]; trivial) (by simp [wkT, okA, wkP, cloE, Vam.look, wrapN i (by omega)]) (by simp [wkBs]) (by simp) (by simp), by simp only; omega⟩
  · (refine CallG.ok hE 9000 (hP ▸ kxb) rfl rfl ?_ <;> simp only [evX, reduceIte, reduceCtorEq, Nat.reduceLT, Nat.reduceAdd, Nat.reduceEqDiff, Nat.reduceBEq, Nat.reduceLeDiff, Nat.reduceMul, ttL, tyL, ht])
    (refine CallG.ok hE 9000 (hP ▸ c5) rfl rfl ?_ <;> simp only [evX, reduceIte, reduceCtorEq, Nat.reduceLT, Nat.reduceAdd, Nat.reduceEqDiff, Nat.reduceBEq, Nat.reduceLeDiff, Nat.reduceMul, ttL, tyL, ht])
    have z1 : ((0 : Int) == 0) = true := rfl
    cases hq : ((mergeN (a ++ m) b).2 != 0) <;> simp only [evX, reduceIte, reduceCtorEq, Nat.reduceLT, Nat.reduceAdd, Nat.reduceEqDiff, Nat.reduceBEq, Nat.reduceLeDiff, Nat.reduceMul, ttL, tyL, ht]
    · have h0q : (mergeN (a ++ m) b).2 = 0 := by simpa using hq
      simp only [hag h0q, beq_self_eq_true, evX, reduceIte, reduceCtorEq, Nat.reduceLT, Nat.reduceAdd, Nat.reduceEqDiff, Nat.reduceBEq, Nat.reduceLeDiff, Nat.reduceMul, ttL, tyL, ht]
      (refine CallG.ok hE 9000 (hP ▸ c4) rfl rfl ?_ <;> simp only [evX, reduceIte, reduceCtorEq, Nat.reduceLT, Nat.reduceAdd, Nat.reduceEqDiff, Nat.reduceBEq, Nat.reduceLeDiff, Nat.reduceMul, ttL, tyL, ht])
      try simp only [z1, evX, reduceIte, reduceCtorEq, Nat.reduceLT, Nat.reduceAdd, Nat.reduceEqDiff, Nat.reduceBEq, Nat.reduceLeDiff, Nat.reduceMul, ttL, tyL, ht]
      exact RetQ.bool (.inr rfl) rfl rfl
    · (refine CallG.ok hE 9000 (hP ▸ c4) rfl rfl ?_ <;> simp only [evX, reduceIte, reduceCtorEq, Nat.reduceLT, Nat.reduceAdd, Nat.reduceEqDiff, Nat.reduceBEq, Nat.reduceLeDiff, Nat.reduceMul, ttL, tyL, ht])
      try simp only [z1, evX, reduceIte, reduceCtorEq, Nat.reduceLT, Nat.reduceAdd, Nat.reduceEqDiff, Nat.reduceBEq, Nat.reduceLeDiff, Nat.reduceMul, ttL, tyL, ht]
      exact RetQ.bool (.inr rfl) rfl rfl
end Go.Proofs.YtmfbcgheffdghaaGreat

/- Chapter 18's laws: in which order, and what is missing. -/
namespace Go.Proofs.YtmfbcgheffdghaaGreat
open Go.Vam Go.Qm
set_option linter.unusedVariables false
set_option linter.unusedSimpArgs false
set_option maxRecDepth 8000
set_option maxHeartbeats 4000000

theorem miss_next (a : List Named) {b : List Named} {i : Nat} (h : i < b.length) : missN a (b.take (i + 1)) = missN a (b.take i) ++ (if hasI a b[i].id = true then [] else [b[i].id]) := by
  rw [missN, missN, List.take_add_one, List.getElem?_eq_getElem h, idsN_append, List.filter_append]
  congr 1
  cases h : hasI a b[i].id <;> simp [idsN, h]
theorem miss_split (a : List Named) {b : List Named} {i : Nat} : missN a b = missN a (b.take i) ++ missN a (b.drop i) := by
  conv => lhs; rw [← List.take_append_drop i b]
  rw [missN, idsN_append, List.filter_append]
  rfl
theorem has_next {a : List Named} {j : Nat} {x : Qm.Id} (h : j < a.length) : hasI (a.take (j + 1)) x = (hasI (a.take j) x || idEq a[j].id x) := by
  rw [hasI, List.take_add_one, List.getElem?_eq_getElem h, List.any_append]
  simp [hasI]
theorem law_MergeMissing (a : List Named) (ba : namedsB a) (ra : ∀ p ∈ a, namedR p) (b : List Named) (bb : namedsB b) (rb : ∀ p ∈ b, namedR p) : Ok Tryz.prog 8 [namedsA a, namedsA b] (.v (boolA true)) := by
  (refine Ok.code hT hM (fn := Tryz.f8) rfl rfl rfl _ _ rfl rfl (Nat.le_of_ble_eq_true rfl) fun E hE hP ht h0 hrd => ?_; refine Go.run hE 9000 ?_; simp only [Tryz.f8, evX, reduceIte, reduceCtorEq, Nat.reduceLT, Nat.reduceAdd, Nat.reduceEqDiff, Nat.reduceBEq, Nat.reduceLeDiff, Nat.reduceMul, ttL, tyL, ht])
  (refine CallG.ok hE 9000 (hP ▸ ok_awake18) rfl rfl ?_ <;> simp only [evX, reduceIte, reduceCtorEq, Nat.reduceLT, Nat.reduceAdd, Nat.reduceEqDiff, Nat.reduceBEq, Nat.reduceLeDiff, Nat.reduceMul, ttL, tyL, ht])
  (refine CallG.ok hE 9000 (hP ▸ ok_fewN a 8 ba) rfl rfl ?_ <;> simp only [evX, reduceIte, reduceCtorEq, Nat.reduceLT, Nat.reduceAdd, Nat.reduceEqDiff, Nat.reduceBEq, Nat.reduceLeDiff, Nat.reduceMul, ttL, tyL, ht])
  (refine CallG.ok hE 9000 (hP ▸ ok_fewN b 8 bb) rfl rfl ?_ <;> simp only [evX, reduceIte, reduceCtorEq, Nat.reduceLT, Nat.reduceAdd, Nat.reduceEqDiff, Nat.reduceBEq, Nat.reduceLeDiff, Nat.reduceMul, ttL, tyL, ht])
  cases h1 : fewN a 8 <;> simp only [evX, reduceIte, reduceCtorEq, Nat.reduceLT, Nat.reduceAdd, Nat.reduceEqDiff, Nat.reduceBEq, Nat.reduceLeDiff, Nat.reduceMul, ttL, tyL, ht, Bool.not_false, Bool.not_true]
  · exact RetQ.bool (.inr rfl) rfl rfl
  cases h2 : fewN b 8 <;> simp only [evX, reduceIte, reduceCtorEq, Nat.reduceLT, Nat.reduceAdd, Nat.reduceEqDiff, Nat.reduceBEq, Nat.reduceLeDiff, Nat.reduceMul, ttL, tyL, ht, Bool.not_false, Bool.not_true]
  · exact RetQ.bool (.inr rfl) rfl rfl
  have ka := few_okM ba ra h1
  have kb := few_okM bb rb h2
  have na := fewN_len h1
  have nb := fewN_len h2
  have hlb : (idsN b).length = b.length := by simp [idsN]
  have ln2 : (missN a b).length ≤ b.length := by rw [← hlb]; exact List.length_filter_le _ _
  (refine CallG.ok hE 9000 (hP ▸ ok_Missing a b (by omega) (by omega) ka.R kb.R) rfl rfl ?_ <;> simp only [evX, reduceIte, reduceCtorEq, Nat.reduceLT, Nat.reduceAdd, Nat.reduceEqDiff, Nat.reduceBEq, Nat.reduceLeDiff, Nat.reduceMul, ttL, tyL, ht])
  refine Loop.by hE (ι := {i : Nat // i ≤ b.length}) (fun i => ⟨88, [(0, namedsA a), (1, namedsA b), (8, idsA (missN a b)), (9, intA ((missN a (b.take i.1)).length : Int)), (10, intA (i.1 : Int))], [], [], []⟩) (fun i => b.length - i.1) ⟨0, by simp⟩ 9000 ⟨[], Wk.of rfl (by simp) (by rw [h0]; trivial) (by simp [wkT, okA, wkP, cloE, Vam.look, missN, idsN]) (by simp [wkBs]) (by simp) (by simp)⟩ (by simp [h0]) ?_
  rintro ⟨i, hi⟩
  have hi : i ≤ b.length := hi
  have hlm : (missN a (b.take i)).length ≤ b.length := by
    refine Nat.le_trans (List.length_filter_le _ _) ?_
    simp [idsN]; omega
  simp only [evX, reduceIte, reduceCtorEq, Nat.reduceLT, Nat.reduceAdd, Nat.reduceEqDiff, Nat.reduceBEq, Nat.reduceLeDiff, Nat.reduceMul, ttL, tyL, ht]
  ((first | refine SelF.byN (fun hb => ?_) (fun hb => ?_) | refine SelF.by (fun hb => ?_) (fun hb => ?_)) <;> simp only [hb, evX, reduceIte, reduceCtorEq, Nat.reduceLT, Nat.reduceAdd, Nat.reduceEqDiff, Nat.reduceBEq, Nat.reduceLeDiff, Nat.reduceMul, ttL, tyL, ht])
  · simp only [decide_eq_true_eq] at hb
    have hlt : i < b.length := by omega
    refine Loop.by hE (ι := {j : Nat // j ≤ a.length}) (fun j => ⟨88, [(0, namedsA a), (1, namedsA b), (8, idsA (missN a b)), (9, intA ((missN a (b.take i)).length : Int)), (10, intA (i : Int)), (11, boolA (hasI (a.take j.1) b[i].id)), (12, intA (j.1 : Int))], [], [], []⟩) (fun j => a.length - j.1) ⟨0, by simp⟩ 9000 ⟨[], Wk.of rfl (by simp) (by rw [h0]; trivial) (by simp [wkT, okA, wkP, cloE, Vam.look, hasI]) (by simp [wkBs]) (by simp) (by simp)⟩ (by simp [h0]) ?_
    rintro ⟨j, hj⟩
    have hj : j ≤ a.length := hj
    simp only [evX, reduceIte, reduceCtorEq, Nat.reduceLT, Nat.reduceAdd, Nat.reduceEqDiff, Nat.reduceBEq, Nat.reduceLeDiff, Nat.reduceMul, ttL, tyL, ht]
    ((first | refine SelF.byN (fun hb => ?_) (fun hb => ?_) | refine SelF.by (fun hb => ?_) (fun hb => ?_)) <;> simp only [hb, evX, reduceIte, reduceCtorEq, Nat.reduceLT, Nat.reduceAdd, Nat.reduceEqDiff, Nat.reduceBEq, Nat.reduceLeDiff, Nat.reduceMul, ttL, tyL, ht])
    · simp only [decide_eq_true_eq] at hb
      have hlt2 : j < a.length := by omega
      have h9 := has_next (x := b[i].id) hlt2
      cases hc : hasI (a.take j) b[i].id
      · rw [hc, Bool.false_or] at h9
        simp only [evX, reduceIte, reduceCtorEq, Nat.reduceLT, Nat.reduceAdd, Nat.reduceEqDiff, Nat.reduceBEq, Nat.reduceLeDiff, Nat.reduceMul, ttL, tyL, ht, Bool.not_false]
        refine IdxR.nat hE 9000 hlt2 rfl ?_
        simp only [evX, reduceIte, reduceCtorEq, Nat.reduceLT, Nat.reduceAdd, Nat.reduceEqDiff, Nat.reduceBEq, Nat.reduceLeDiff, Nat.reduceMul, ttL, tyL, ht]
        refine IdxR.nat hE 9000 hlt rfl ?_
        simp only [evX, reduceIte, reduceCtorEq, Nat.reduceLT, Nat.reduceAdd, Nat.reduceEqDiff, Nat.reduceBEq, Nat.reduceLeDiff, Nat.reduceMul, ttL, tyL, ht]
        (refine HardOp.eqI hE 9000 rfl (hP ▸ eqT) rfl ?_ <;> simp only [evX, reduceIte, reduceCtorEq, Nat.reduceLT, Nat.reduceAdd, Nat.reduceEqDiff, Nat.reduceBEq, Nat.reduceLeDiff, Nat.reduceMul, ttL, tyL, ht])
        refine ⟨by kernel_rfl, ?_⟩
        have hc2 : (a[j].id.who == b[i].id.who && a[j].id.no == b[i].id.no) = idEq a[j].id b[i].id := rfl
        simp only [hc2, ← h9, evX, reduceIte, reduceCtorEq, Nat.reduceLT, Nat.reduceAdd, Nat.reduceEqDiff, Nat.reduceBEq, Nat.reduceLeDiff, Nat.reduceMul, ttL, tyL, ht]
        refine ⟨⟨j + 1, by omega⟩, [], Wk.of rfl (by simp) (by rw [h0]; trivial) (by simp [wkT, okA, wkP, cloE, Vam.look, wrapN j (by omega)]) (by simp [wkBs]) (by simp) (by simp), by simp only; omega⟩
      · rw [hc, Bool.true_or] at h9
        simp only [evX, reduceIte, reduceCtorEq, Nat.reduceLT, Nat.reduceAdd, Nat.reduceEqDiff, Nat.reduceBEq, Nat.reduceLeDiff, Nat.reduceMul, ttL, tyL, ht, Bool.not_true]
        refine ⟨by kernel_rfl, ?_⟩
        refine ⟨⟨j + 1, by omega⟩, [], Wk.of rfl (by simp) (by rw [h0]; trivial) (by simp [wkT, okA, wkP, cloE, Vam.look, wrapN j (by omega), h9]) (by simp [wkBs]) (by simp) (by simp), by simp only; omega⟩
    · have hj' : j = a.length := by simp at hb; omega
      subst hj'
      rw [List.take_length]
      have hn := miss_next a hlt
      cases hc : hasI a b[i].id
      · simp only [hc, Bool.false_eq_true, if_false] at hn
        have hsp := miss_split a (b := b) (i := i + 1)
        rw [hn, List.append_assoc] at hsp
        have hk : (missN a (b.take i)).length < (missN a b).length := by rw [hsp]; simp
        have hkg : (missN a b)[(missN a (b.take i)).length] = b[i].id := by simp [hsp]
        have hge : decide (((missN a (b.take i)).length : Int) ≥ ((missN a b).length : Int)) = false := by simp; omega
        simp only [hge, evX, reduceIte, reduceCtorEq, Nat.reduceLT, Nat.reduceAdd, Nat.reduceEqDiff, Nat.reduceBEq, Nat.reduceLeDiff, Nat.reduceMul, ttL, tyL, ht]
        refine IdxR.nat hE 9000 hk rfl ?_
        simp only [evX, reduceIte, reduceCtorEq, Nat.reduceLT, Nat.reduceAdd, Nat.reduceEqDiff, Nat.reduceBEq, Nat.reduceLeDiff, Nat.reduceMul, ttL, tyL, ht]
        refine IdxR.nat hE 9000 hlt rfl ?_
        simp only [evX, reduceIte, reduceCtorEq, Nat.reduceLT, Nat.reduceAdd, Nat.reduceEqDiff, Nat.reduceBEq, Nat.reduceLeDiff, Nat.reduceMul, ttL, tyL, ht]
        (refine HardOp.eqI hE 9000 rfl (hP ▸ eqT) rfl ?_ <;> simp only [evX, reduceIte, reduceCtorEq, Nat.reduceLT, Nat.reduceAdd, Nat.reduceEqDiff, Nat.reduceBEq, Nat.reduceLeDiff, Nat.reduceMul, ttL, tyL, ht])
        refine ⟨by kernel_rfl, ?_⟩
        simp only [hkg, beq_self_eq_true, Bool.and_self, Bool.not_true, evX, reduceIte, reduceCtorEq, Nat.reduceLT, Nat.reduceAdd, Nat.reduceEqDiff, Nat.reduceBEq, Nat.reduceLeDiff, Nat.reduceMul, ttL, tyL, ht]
        refine ⟨⟨i + 1, by omega⟩, [], Wk.of rfl (by simp) (by rw [h0]; trivial) (by simp [wkT, okA, wkP, cloE, Vam.look, wrapN i (by omega), wrapN (missN a (b.take i)).length (by omega), hn]) (by simp [wkBs]) (by simp) (by simp), by simp only; omega⟩
      · simp only [hc, if_true, List.append_nil] at hn
        simp only [evX, reduceIte, reduceCtorEq, Nat.reduceLT, Nat.reduceAdd, Nat.reduceEqDiff, Nat.reduceBEq, Nat.reduceLeDiff, Nat.reduceMul, ttL, tyL, ht]
        refine ⟨⟨i + 1, by omega⟩, [], Wk.of rfl (by simp) (by rw [h0]; trivial) (by simp [wkT, okA, wkP, cloE, Vam.look, wrapN i (by omega), hn]) (by simp [wkBs]) (by simp) (by simp), by simp only; omega⟩
  · have hi' : i = b.length := by simp at hb; omega
    subst hi'
    rw [List.take_length]
    have e0 : missN b b = [] := missN_self fun x h => h
    have c1 := ok_Missing b b (by omega) (by omega) kb.R kb.R
    rw [e0] at c1
    simp only [beq_self_eq_true, evX, reduceIte, reduceCtorEq, Nat.reduceLT, Nat.reduceAdd, Nat.reduceEqDiff, Nat.reduceBEq, Nat.reduceLeDiff, Nat.reduceMul, ttL, tyL, ht]
    (refine CallG.ok hE 9000 (hP ▸ c1) rfl rfl ?_ <;> simp only [evX, reduceIte, reduceCtorEq, Nat.reduceLT, Nat.reduceAdd, Nat.reduceEqDiff, Nat.reduceBEq, Nat.reduceLeDiff, Nat.reduceMul, ttL, tyL, ht])
    exact RetQ.bool (.inr rfl) rfl rfl
theorem law_MergeOrder (a : List Named) (ba : namedsB a) (ra : ∀ p ∈ a, namedR p) (b : List Named) (bb : namedsB b) (rb : ∀ p ∈ b, namedR p) : Ok Tryz.prog 7 [namedsA a, namedsA b] (.v (boolA true)) := by
  (refine Ok.code hT hM (fn := Tryz.f7) rfl rfl rfl _ _ rfl rfl (Nat.le_of_ble_eq_true rfl) fun E hE hP ht h0 hrd => ?_; refine Go.run hE 9000 ?_; simp only [Tryz.f7, evX, reduceIte, reduceCtorEq, Nat.reduceLT, Nat.reduceAdd, Nat.reduceEqDiff, Nat.reduceBEq, Nat.reduceLeDiff, Nat.reduceMul, ttL, tyL, ht])
  (refine CallG.ok hE 9000 (hP ▸ ok_awake18) rfl rfl ?_ <;> simp only [evX, reduceIte, reduceCtorEq, Nat.reduceLT, Nat.reduceAdd, Nat.reduceEqDiff, Nat.reduceBEq, Nat.reduceLeDiff, Nat.reduceMul, ttL, tyL, ht])
  (refine CallG.ok hE 9000 (hP ▸ ok_fewN a 8 ba) rfl rfl ?_ <;> simp only [evX, reduceIte, reduceCtorEq, Nat.reduceLT, Nat.reduceAdd, Nat.reduceEqDiff, Nat.reduceBEq, Nat.reduceLeDiff, Nat.reduceMul, ttL, tyL, ht])
  (refine CallG.ok hE 9000 (hP ▸ ok_fewN b 8 bb) rfl rfl ?_ <;> simp only [evX, reduceIte, reduceCtorEq, Nat.reduceLT, Nat.reduceAdd, Nat.reduceEqDiff, Nat.reduceBEq, Nat.reduceLeDiff, Nat.reduceMul, ttL, tyL, ht])
  cases h1 : fewN a 8 <;> simp only [evX, reduceIte, reduceCtorEq, Nat.reduceLT, Nat.reduceAdd, Nat.reduceEqDiff, Nat.reduceBEq, Nat.reduceLeDiff, Nat.reduceMul, ttL, tyL, ht, Bool.not_false, Bool.not_true]
  · exact RetQ.bool (.inr rfl) rfl rfl
  cases h2 : fewN b 8 <;> simp only [evX, reduceIte, reduceCtorEq, Nat.reduceLT, Nat.reduceAdd, Nat.reduceEqDiff, Nat.reduceBEq, Nat.reduceLeDiff, Nat.reduceMul, ttL, tyL, ht, Bool.not_false, Bool.not_true]
  · exact RetQ.bool (.inr rfl) rfl rfl
  have ka := few_okM ba ra h1
  have kb := few_okM bb rb h2
  have na := fewN_len h1
  have nb := fewN_len h2
  have kx := merge_ok ka kb (by omega) (by omega)
  have hlb : (idsN b).length = b.length := by simp [idsN]
  have ln2 : (missN a b).length ≤ b.length := by rw [← hlb]; exact List.length_filter_le _ _
  (refine CallG.ok hE 9000 (hP ▸ ok_Merge a b ka kb) rfl rfl ?_ <;> simp only [evX, reduceIte, reduceCtorEq, Nat.reduceLT, Nat.reduceAdd, Nat.reduceEqDiff, Nat.reduceBEq, Nat.reduceLeDiff, Nat.reduceMul, ttL, tyL, ht])
  cases hne : ((mergeN a b).2 != 0) <;> simp only [evX, reduceIte, reduceCtorEq, Nat.reduceLT, Nat.reduceAdd, Nat.reduceEqDiff, Nat.reduceBEq, Nat.reduceLeDiff, Nat.reduceMul, ttL, tyL, ht]
  rotate_left
  · simp only [hne, evX, reduceIte, reduceCtorEq, Nat.reduceLT, Nat.reduceAdd, Nat.reduceEqDiff, Nat.reduceBEq, Nat.reduceLeDiff, Nat.reduceMul, ttL, tyL, ht]
    exact RetQ.bool (.inr rfl) rfl rfl
  have h0m : (mergeN a b).2 = 0 := by simpa using hne
  obtain ⟨m, hda, hdb, _, l2, cm, em⟩ := mergeN_ok h0m
  have e1 : (mergeN a b).1 = a ++ m := by rw [em]
  obtain ⟨j1, j2⟩ := carryN_like cm
  have hids := ids_same j1 j2
  have kt := kb.gone (missN a b)
  have lt1 := part_len (ids := missN a b) b
  rw [e1] at kx ⊢
  have f1 : decide ((((a ++ m).length : Nat) : Int) < (a.length : Int)) = false := by simp; omega
  simp only [f1, evX, reduceIte, reduceCtorEq, Nat.reduceLT, Nat.reduceAdd, Nat.reduceEqDiff, Nat.reduceBEq, Nat.reduceLeDiff, Nat.reduceMul, ttL, tyL, ht]
  (refine CallG.ok hE 9000 (hP ▸ ok_Missing a b (by omega) (by omega) ka.R kb.R) rfl rfl ?_ <;> simp only [evX, reduceIte, reduceCtorEq, Nat.reduceLT, Nat.reduceAdd, Nat.reduceEqDiff, Nat.reduceBEq, Nat.reduceLeDiff, Nat.reduceMul, ttL, tyL, ht])
  (refine CallG.ok hE 9000 (hP ▸ ok_Part b (missN a b) (by omega) kb.k (by omega)) rfl rfl ?_ <;> simp only [evX, reduceIte, reduceCtorEq, Nat.reduceLT, Nat.reduceAdd, Nat.reduceEqDiff, Nat.reduceBEq, Nat.reduceLeDiff, Nat.reduceMul, ttL, tyL, ht])
  generalize (partN b (missN a b)).2 = th at j1 j2 hids kt lt1 l2 cm
  have nt := kt.n
  refine SlcR.by hE 9000 (by intro row hrow; obtain ⟨x, _, rfl⟩ := List.mem_map.1 hrow; rfl) (by simp) (by simp; omega) (by simp) ?_
  simp only [evX, reduceIte, reduceCtorEq, Nat.reduceLT, Nat.reduceAdd, Nat.reduceEqDiff, Nat.reduceBEq, Nat.reduceLeDiff, Nat.reduceMul, ttL, tyL, ht]
  rw [show List.drop ((a.length : Int)).toNat (List.take (((a ++ m).length : Nat) : Int).toNat (namedsC (a ++ m))) = namedsC m by rw [Int.toNat_natCast, Int.toNat_natCast, List.take_of_length_le (by simp), namedsC, List.map_append, List.drop_left' (by simp)]]
  (refine CallG.ok hE 9000 (hP ▸ ok_Ids m (by omega)) rfl rfl ?_ <;> simp only [evX, reduceIte, reduceCtorEq, Nat.reduceLT, Nat.reduceAdd, Nat.reduceEqDiff, Nat.reduceBEq, Nat.reduceLeDiff, Nat.reduceMul, ttL, tyL, ht])
  (refine CallG.ok hE 9000 (hP ▸ ok_Ids th (by omega)) rfl rfl ?_ <;> simp only [evX, reduceIte, reduceCtorEq, Nat.reduceLT, Nat.reduceAdd, Nat.reduceEqDiff, Nat.reduceBEq, Nat.reduceLeDiff, Nat.reduceMul, ttL, tyL, ht])
  have cs := ok_ref16Same (idsN m) (idsN th) (by simp [idsN]; omega)
  rw [hids, all2_refl_of _ idEq_refl] at cs
  rw [hids]
  (refine CallG.ok hE 9000 (hP ▸ cs) rfl rfl ?_ <;> simp only [evX, reduceIte, reduceCtorEq, Nat.reduceLT, Nat.reduceAdd, Nat.reduceEqDiff, Nat.reduceBEq, Nat.reduceLeDiff, Nat.reduceMul, ttL, tyL, ht])
  refine Loop.by hE (ι := {i : Nat // i ≤ th.length}) (fun i => ⟨113, [(0, namedsA a), (8, namedsA (a ++ m)), (11, namedsA th), (12, boolA true), (13, intA (i.1 : Int))], [], [], []⟩) (fun i => th.length - i.1) ⟨0, by simp⟩ 9000 ⟨[], Wk.of rfl (by simp) (by rw [h0]; trivial) (by simp [wkT, okA, wkP, cloE, Vam.look]) (by simp [wkBs]) (by simp) (by simp)⟩ (by simp [h0]) ?_
  rintro ⟨i, hi⟩
  have hi : i ≤ th.length := hi
  simp only [evX, reduceIte, reduceCtorEq, Nat.reduceLT, Nat.reduceAdd, Nat.reduceEqDiff, Nat.reduceBEq, Nat.reduceLeDiff, Nat.reduceMul, ttL, tyL, ht]
  ((first | refine SelF.byN (fun hb => ?_) (fun hb => ?_) | refine SelF.by (fun hb => ?_) (fun hb => ?_)) <;> simp only [hb, evX, reduceIte, reduceCtorEq, Nat.reduceLT, Nat.reduceAdd, Nat.reduceEqDiff, Nat.reduceBEq, Nat.reduceLeDiff, Nat.reduceMul, ttL, tyL, ht])
  · simp only [decide_eq_true_eq] at hb
    have hlt : i < th.length := by omega
    have hlm : i < m.length := by omega
    have hlx : a.length + i < (a ++ m).length := by simp; omega
    have hx : (a ++ m)[a.length + i] = m[i] := by rw [List.getElem_append_right (by omega)]; simp
    obtain ⟨k1, k2, k3, k4⟩ := j2 i hlm hlt
    have hw : IntKind.i64.wrap ((a.length : Int) + (i : Int)) = ((a.length + i : Nat) : Int) := by rw [wrap64 (by omega) (by omega)]; simp
    have cT : ((a ++ m)[a.length + i].text == th[i].text) = true := by rw [hx, k3]; simp [str_beq]
    have cD : ((((a ++ m)[a.length + i].deps.length : Nat) : Int) == ((th[i].deps.length : Nat) : Int)) = true := by rw [hx, k2]; simp
    have cL : ((((a ++ m)[a.length + i].l.length : Nat) : Int) == ((th[i].l.length : Nat) : Int)) = true := by rw [hx, k4]; simp
    simp only [hw, evX, reduceIte, reduceCtorEq, Nat.reduceLT, Nat.reduceAdd, Nat.reduceEqDiff, Nat.reduceBEq, Nat.reduceLeDiff, Nat.reduceMul, ttL, tyL, ht]
    refine IdxR.nat hE 9000 hlx rfl ?_
    simp only [evX, reduceIte, reduceCtorEq, Nat.reduceLT, Nat.reduceAdd, Nat.reduceEqDiff, Nat.reduceBEq, Nat.reduceLeDiff, Nat.reduceMul, ttL, tyL, ht]
    (refine StG.by hE ht 9000 rfl ?_ <;> simp only [evX, reduceIte, reduceCtorEq, Nat.reduceLT, Nat.reduceAdd, Nat.reduceEqDiff, Nat.reduceBEq, Nat.reduceLeDiff, Nat.reduceMul, ttL, tyL, ht])
    refine IdxR.nat hE 9000 hlt rfl ?_
    simp only [evX, reduceIte, reduceCtorEq, Nat.reduceLT, Nat.reduceAdd, Nat.reduceEqDiff, Nat.reduceBEq, Nat.reduceLeDiff, Nat.reduceMul, ttL, tyL, ht]
    simp only [cT, evX, reduceIte, reduceCtorEq, Nat.reduceLT, Nat.reduceAdd, Nat.reduceEqDiff, Nat.reduceBEq, Nat.reduceLeDiff, Nat.reduceMul, ttL, tyL, ht]
    refine IdxR.nat hE 9000 hlt rfl ?_
    simp only [evX, reduceIte, reduceCtorEq, Nat.reduceLT, Nat.reduceAdd, Nat.reduceEqDiff, Nat.reduceBEq, Nat.reduceLeDiff, Nat.reduceMul, ttL, tyL, ht]
    simp only [cD, List.length_map, evX, reduceIte, reduceCtorEq, Nat.reduceLT, Nat.reduceAdd, Nat.reduceEqDiff, Nat.reduceBEq, Nat.reduceLeDiff, Nat.reduceMul, ttL, tyL, ht]
    refine IdxR.nat hE 9000 hlt rfl ?_
    simp only [evX, reduceIte, reduceCtorEq, Nat.reduceLT, Nat.reduceAdd, Nat.reduceEqDiff, Nat.reduceBEq, Nat.reduceLeDiff, Nat.reduceMul, ttL, tyL, ht]
    simp only [cL, List.length_map, evX, reduceIte, reduceCtorEq, Nat.reduceLT, Nat.reduceAdd, Nat.reduceEqDiff, Nat.reduceBEq, Nat.reduceLeDiff, Nat.reduceMul, ttL, tyL, ht]
    refine ⟨by kernel_rfl, ?_⟩
    refine ⟨⟨i + 1, by omega⟩, [], Wk.of rfl (by simp) (by rw [h0]; trivial) (by simp [wkT, okA, wkP, cloE, Vam.look, wrapN i (by omega)]) (by simp [wkBs]) (by simp) (by simp), by simp only; omega⟩
  · exact RetQ.bool (.inr rfl) rfl rfl
end Go.Proofs.YtmfbcgheffdghaaGreat
