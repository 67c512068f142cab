/- The program's functions, walked (part 6). -/
import Derived.Test.YtmfbcgheffdghaaGreatS2
import Derived.Test.YtmfbcgheffdghaaGreatS1
import Derived.Test.YtmfbcgheffdghaaGreatG11
import Derived.Test.YtmfbcgheffdghaaGreatS5
import Derived.Test.YtmfbcgheffdghaaGreatG12
/- Trees: the document's functions upon them; which trees may be. -/
namespace Go.Proofs.YtmfbcgheffdghaaGreat
open Go.Vam Go.Qm
set_option linter.unusedVariables false
set_option linter.unusedSimpArgs false
set_option maxRecDepth 8000

theorem findIdx_in {t : List File} {n : Str} (h : t.any (isN n) = true) : t.findIdx (isN n) < t.length := by have := findIdx_lt (t := t) (f := isN n); rw [h] at this; simpa using this
theorem mapIdx_at {t : List File} {i : Nat} (h : i < t.length) (hf : fileMay t i t[i] = false) : treeMay t = false := by
  unfold treeMay
  have : (t.mapIdx (fileMay t)).all id = false := by
    rw [List.all_eq_false]
    exact ⟨_, List.mem_mapIdx.2 ⟨i, h, rfl⟩, by simp [hf]⟩
  rw [this]; rfl
theorem may_step {t : List File} {i : Nat} {hlt : i < t.length} (hall : ∀ (j : Nat) (hj : j < t.length), j < i → fileMay t j t[j] = true) (h : fileMay t i t[i] = true) : ∀ (j : Nat) (hj : j < t.length), j < i + 1 → fileMay t j t[j] = true := fun j hj hji => by
  rcases Nat.lt_succ_iff_lt_or_eq.1 hji with h' | h'
  · exact hall j hj h'
  · subst h'
    exact h
theorem treeMay_all {t : List File} (h : ∀ (i : Nat) (hi : i < t.length), fileMay t i t[i] = true) : treeMay t = decide ((t.length : Int) ≤ 30) := by
  unfold treeMay
  have : (t.mapIdx (fileMay t)).all id = true := by
    rw [List.all_eq_true]
    intro x hx
    obtain ⟨i, hi, rfl⟩ := List.mem_mapIdx.1 hx
    exact h i hi
  rw [this, Bool.true_and]
end Go.Proofs.YtmfbcgheffdghaaGreat

/- Changes: the document's answer; the law's first steps. -/
namespace Go.Proofs.YtmfbcgheffdghaaGreat
open Go.Vam Go.Qm
set_option linter.unusedVariables false
set_option linter.unusedSimpArgs false
set_option maxRecDepth 8000

theorem ok_rMay (p : Prim) (hB : primB p) (hR : primR p) : Ok Tryz.prog 93 [primA p] (.v (boolA (mayP p))) := by
  obtain ⟨k, n, m, h⟩ := p
  have hc : (n == m) = decide (n = m) := str_beq n m
  have hc2 : (m == n) = decide (n = m) := by rw [str_beq, decide_eq_decide]; exact eq_comm
  have hc3 : (m == ⟨#[]⟩) = decide (m = ⟨#[]⟩) := str_beq m _
  (refine Ok.code hT hM (fn := Tryz.f93) rfl rfl rfl _ _ rfl rfl (Nat.le_of_ble_eq_true rfl) fun E hE hP ht h0 hrd => ?_; refine Go.run hE 9000 ?_; simp only [Tryz.f93, evX, reduceIte, reduceCtorEq, Nat.reduceLT, Nat.reduceAdd, Nat.reduceEqDiff, Nat.reduceBEq, Nat.reduceLeDiff, Nat.reduceMul, ttL, tyL, ht])
  (refine CallG.ok hE 9000 (hP ▸ ok_ref01Name n hR.name) rfl rfl ?_ <;> simp only [evX, reduceIte, reduceCtorEq, Nat.reduceLT, Nat.reduceAdd, Nat.reduceEqDiff, Nat.reduceBEq, Nat.reduceLeDiff, Nat.reduceMul, ttL, tyL, ht])
  (refine CallG.ok hE 9000 (hP ▸ ok_ref01Name m hR.to) rfl rfl ?_ <;> simp only [evX, reduceIte, reduceCtorEq, Nat.reduceLT, Nat.reduceAdd, Nat.reduceEqDiff, Nat.reduceBEq, Nat.reduceLeDiff, Nat.reduceMul, ttL, tyL, ht])
  (refine CallG.ok hE 9000 (hP ▸ ok_ref05May h hB hR.h) rfl rfl ?_ <;> simp only [evX, reduceIte, reduceCtorEq, Nat.reduceLT, Nat.reduceAdd, Nat.reduceEqDiff, Nat.reduceBEq, Nat.reduceLeDiff, Nat.reduceMul, ttL, tyL, ht])
  (refine CallG.ok hE 9000 (hP ▸ ok_ref08none h) rfl rfl ?_ <;> simp only [evX, reduceIte, reduceCtorEq, Nat.reduceLT, Nat.reduceAdd, Nat.reduceEqDiff, Nat.reduceBEq, Nat.reduceLeDiff, Nat.reduceMul, ttL, tyL, ht])
  by_cases hk : k = 0 ∨ k = 1 ∨ k = 2 ∨ k = 3 ∨ k = 4
  · rcases hk with rfl | rfl | rfl | rfl | rfl <;> simp only [evX, reduceIte, reduceCtorEq, Nat.reduceLT, Nat.reduceAdd, Nat.reduceEqDiff, Nat.reduceBEq, Nat.reduceLeDiff, Nat.reduceMul, ttL, tyL, ht, Int.reduceBEq]
    all_goals repeat' ((first | refine SelF.byN (fun hb => ?_) (fun hb => ?_) | refine SelF.by (fun hb => ?_) (fun hb => ?_)) <;> simp only [hb, evX, reduceIte, reduceCtorEq, Nat.reduceLT, Nat.reduceAdd, Nat.reduceEqDiff, Nat.reduceBEq, Nat.reduceLeDiff, Nat.reduceMul, ttL, tyL, ht])
    all_goals exact RetQ.bool (.inr rfl) rfl (by simp_all [mayP, singleP])
  · have k0 : (k == 0) = false := by rw [beq_eq_false_iff_ne]; omega
    have k1 : (k == 1) = false := by rw [beq_eq_false_iff_ne]; omega
    have k2 : (k == 2) = false := by rw [beq_eq_false_iff_ne]; omega
    have k3 : (k == 3) = false := by rw [beq_eq_false_iff_ne]; omega
    have k4 : (k == 4) = false := by rw [beq_eq_false_iff_ne]; omega
    simp only [evX, reduceIte, reduceCtorEq, Nat.reduceLT, Nat.reduceAdd, Nat.reduceEqDiff, Nat.reduceBEq, Nat.reduceLeDiff, Nat.reduceMul, ttL, tyL, ht, k0, k1, k2, k3, k4]
    exact RetQ.bool (.inr rfl) rfl (by rw [mayP, if_neg (by simp only; omega), if_neg (by simp only; omega), if_neg (by simp only; omega), if_neg (by simp only; omega)])
def aw8p : Prim := ⟨0, ⟨#[97]⟩, ⟨#[]⟩, ⟨0, [], []⟩⟩
def aw8q : Prim := ⟨3, ⟨#[97]⟩, ⟨#[]⟩, ⟨0, [], [⟨#[120]⟩]⟩⟩
theorem aw8a : applyP [] aw8p = ([⟨⟨#[97]⟩, []⟩], 0) := by kernel_rfl
theorem aw8b : applyP [⟨⟨#[97]⟩, []⟩] aw8q = ([⟨⟨#[97]⟩, [⟨#[120]⟩]⟩], 0) := by kernel_rfl
end Go.Proofs.YtmfbcgheffdghaaGreat

/- Named patches: what the functions upon them tell. -/
namespace Go.Proofs.YtmfbcgheffdghaaGreat
open Go.Vam Go.Qm
set_option linter.unusedVariables false
set_option linter.unusedSimpArgs false
set_option maxRecDepth 8000
set_option maxHeartbeats 1000000

theorem eqT : EqT Tryz.prog 33 :=
  EqT.ofB (ti := 3) (i := ty3) (by kernel_rfl) (by kernel_rfl) (by kernel_rfl) (by kernel_rfl) (by kernel_rfl) (hT 3 ty3 tt3) rfl
theorem ok_IndexFuncId (l : List Qm.Id) (g : Nat) (caps : List (List C)) (f : Qm.Id → Bool) (hl : l.length < 9223372036854775807) (hok : ∀ s ∈ l, Ok Tryz.prog g (idA s :: caps.map .pt) (.v (boolA (f s)))) :
    Ok Tryz.prog 51 [idsA l, .c (.fn g caps)] (.v (intA (idxI f l))) := by
  (refine Ok.code hT hM (fn := Tryz.f51) rfl rfl rfl _ _ rfl rfl (Nat.le_of_ble_eq_true rfl) fun E hE hP ht h0 hrd => ?_; refine Go.run hE 9000 ?_; simp only [Tryz.f51, evX, reduceIte, reduceCtorEq, Nat.reduceLT, Nat.reduceAdd, Nat.reduceEqDiff, Nat.reduceBEq, Nat.reduceLeDiff, Nat.reduceMul, ttL, tyL, ht])
  refine Loop.by hE (ι := {i : Nat // i ≤ l.length ∧ (l.take i).any f = false}) (fun i => ⟨19, [(0, idsA l), (1, .c (.fn g caps)), (7, intA l.length), (8, intA i.1)], [], [], []⟩) (fun i => l.length - i.1) ⟨0, by simp⟩ 9000 ⟨[], Wk.of rfl (by simp) (by rw [h0]; simp [fixB]) (by simp [wkT, okA, wkP, cloE, Vam.look, sig, ]) (by simp [wkBs, setBx, nthB, wkBx, wkL, okA, wkP, cloE, sig, ]) (by simp) (by simp)⟩ (by simp [h0]) ?_
  rintro ⟨i, hi, hall⟩
  simp only [evX, reduceIte, reduceCtorEq, Nat.reduceLT, Nat.reduceAdd, Nat.reduceEqDiff, Nat.reduceBEq, Nat.reduceLeDiff, Nat.reduceMul, ttL, tyL, ht]
  ((first | refine SelF.byN (fun hb => ?_) (fun hb => ?_) | refine SelF.by (fun hb => ?_) (fun hb => ?_)) <;> simp only [hb, evX, reduceIte, reduceCtorEq, Nat.reduceLT, Nat.reduceAdd, Nat.reduceEqDiff, Nat.reduceBEq, Nat.reduceLeDiff, Nat.reduceMul, ttL, tyL, ht])
  · simp only [decide_eq_true_eq] at hb
    have hlt : i < l.length := by omega
    refine IdxR.nat hE 9000 hlt rfl ?_
    simp only [evX, reduceIte, reduceCtorEq, Nat.reduceLT, Nat.reduceAdd, Nat.reduceEqDiff, Nat.reduceBEq, Nat.reduceLeDiff, Nat.reduceMul, ttL, tyL, ht]
    refine CallG.ok hE 9000 (hP ▸ hok l[i] (List.getElem_mem hlt)) (by rw [← mapN_eq]; rfl) rfl ?_
    simp only [evX, reduceIte, reduceCtorEq, Nat.reduceLT, Nat.reduceAdd, Nat.reduceEqDiff, Nat.reduceBEq, Nat.reduceLeDiff, Nat.reduceMul, ttL, tyL, ht]
    ((first | refine SelF.byN (fun hb => ?_) (fun hb => ?_) | refine SelF.by (fun hb => ?_) (fun hb => ?_)) <;> simp only [hb, evX, reduceIte, reduceCtorEq, Nat.reduceLT, Nat.reduceAdd, Nat.reduceEqDiff, Nat.reduceBEq, Nat.reduceLeDiff, Nat.reduceMul, ttL, tyL, ht])
    · exact RetQ.c (.inr rfl) rfl (by rw [idxI_at hlt hall hb])
    · refine ⟨⟨i + 1, by omega, by rw [any_take hlt, hall, hb]; rfl⟩, [], Wk.of rfl (by simp) (by rw [h0]; simp [fixB]) (by simp [wkT, okA, wkP, cloE, Vam.look, sig, wrapN i (by omega)]) (by simp [wkBs, setBx, nthB, wkBx, wkL, okA, wkP, cloE, sig, wrapN i (by omega)]) (by simp) (by simp), by simp only; omega⟩
  · exact RetQ.c (.inr rfl) rfl (by rw [idxI_none hi (by simpa using hb) hall])
theorem ok_IndexFuncN (l : List Named) (g : Nat) (caps : List (List C)) (f : Named → Bool) (hl : l.length < 9223372036854775807) (hok : ∀ s ∈ l, Ok Tryz.prog g (namedA s :: caps.map .pt) (.v (boolA (f s)))) :
    Ok Tryz.prog 31 [namedsA l, .c (.fn g caps)] (.v (intA (idxI f l))) := by
  (refine Ok.code hT hM (fn := Tryz.f31) rfl rfl rfl _ _ rfl rfl (Nat.le_of_ble_eq_true rfl) fun E hE hP ht h0 hrd => ?_; refine Go.run hE 9000 ?_; simp only [Tryz.f31, evX, reduceIte, reduceCtorEq, Nat.reduceLT, Nat.reduceAdd, Nat.reduceEqDiff, Nat.reduceBEq, Nat.reduceLeDiff, Nat.reduceMul, ttL, tyL, ht])
  refine Loop.by hE (ι := {i : Nat // i ≤ l.length ∧ (l.take i).any f = false}) (fun i => ⟨19, [(0, namedsA l), (1, .c (.fn g caps)), (7, intA l.length), (8, intA i.1)], [], [], []⟩) (fun i => l.length - i.1) ⟨0, by simp⟩ 9000 ⟨[], Wk.of rfl (by simp) (by rw [h0]; simp [fixB]) (by simp [wkT, okA, wkP, cloE, Vam.look, sig, ]) (by simp [wkBs, setBx, nthB, wkBx, wkL, okA, wkP, cloE, sig, ]) (by simp) (by simp)⟩ (by simp [h0]) ?_
  rintro ⟨i, hi, hall⟩
  simp only [evX, reduceIte, reduceCtorEq, Nat.reduceLT, Nat.reduceAdd, Nat.reduceEqDiff, Nat.reduceBEq, Nat.reduceLeDiff, Nat.reduceMul, ttL, tyL, ht]
  ((first | refine SelF.byN (fun hb => ?_) (fun hb => ?_) | refine SelF.by (fun hb => ?_) (fun hb => ?_)) <;> simp only [hb, evX, reduceIte, reduceCtorEq, Nat.reduceLT, Nat.reduceAdd, Nat.reduceEqDiff, Nat.reduceBEq, Nat.reduceLeDiff, Nat.reduceMul, ttL, tyL, ht])
  · simp only [decide_eq_true_eq] at hb
    have hlt : i < l.length := by omega
    refine IdxR.nat hE 9000 hlt rfl ?_
    simp only [evX, reduceIte, reduceCtorEq, Nat.reduceLT, Nat.reduceAdd, Nat.reduceEqDiff, Nat.reduceBEq, Nat.reduceLeDiff, Nat.reduceMul, ttL, tyL, ht]
    refine CallG.ok hE 9000 (hP ▸ hok l[i] (List.getElem_mem hlt)) (by rw [← mapN_eq]; rfl) rfl ?_
    simp only [evX, reduceIte, reduceCtorEq, Nat.reduceLT, Nat.reduceAdd, Nat.reduceEqDiff, Nat.reduceBEq, Nat.reduceLeDiff, Nat.reduceMul, ttL, tyL, ht]
    ((first | refine SelF.byN (fun hb => ?_) (fun hb => ?_) | refine SelF.by (fun hb => ?_) (fun hb => ?_)) <;> simp only [hb, evX, reduceIte, reduceCtorEq, Nat.reduceLT, Nat.reduceAdd, Nat.reduceEqDiff, Nat.reduceBEq, Nat.reduceLeDiff, Nat.reduceMul, ttL, tyL, ht])
    · exact RetQ.c (.inr rfl) rfl (by rw [idxI_at hlt hall hb])
    · refine ⟨⟨i + 1, by omega, by rw [any_take hlt, hall, hb]; rfl⟩, [], Wk.of rfl (by simp) (by rw [h0]; simp [fixB]) (by simp [wkT, okA, wkP, cloE, Vam.look, sig, wrapN i (by omega)]) (by simp [wkBs, setBx, nthB, wkBx, wkL, okA, wkP, cloE, sig, wrapN i (by omega)]) (by simp) (by simp), by simp only; omega⟩
  · exact RetQ.c (.inr rfl) rfl (by rw [idxI_none hi (by simpa using hb) hall])
theorem ok_find1 (p : Named) (x : Qm.Id) : Ok Tryz.prog 32 [namedA p, .pt (idC x)] (.v (boolA (idEq p.id x))) := by
  (refine Ok.code hT hM (fn := Tryz.f32) rfl rfl rfl _ _ rfl rfl (Nat.le_of_ble_eq_true rfl) fun E hE hP ht h0 hrd => ?_; refine Go.run hE 9000 ?_; simp only [Tryz.f32, evX, reduceIte, reduceCtorEq, Nat.reduceLT, Nat.reduceAdd, Nat.reduceEqDiff, Nat.reduceBEq, Nat.reduceLeDiff, Nat.reduceMul, ttL, tyL, ht])
  (refine HardOp.eqI hE 9000 rfl (hP ▸ eqT) rfl ?_ <;> simp only [evX, reduceIte, reduceCtorEq, Nat.reduceLT, Nat.reduceAdd, Nat.reduceEqDiff, Nat.reduceBEq, Nat.reduceLeDiff, Nat.reduceMul, ttL, tyL, ht])
  exact RetQ.bool (.inr rfl) rfl rfl
theorem ok_Find (l : List Named) (x : Qm.Id) (hl : l.length < 9223372036854775807) : Ok Tryz.prog 14 [namedsA l, idA x] (.v (intA (findN l x))) := by
  (refine Ok.code hT hM (fn := Tryz.f14) rfl rfl rfl _ _ rfl rfl (Nat.le_of_ble_eq_true rfl) fun E hE hP ht h0 hrd => ?_; refine Go.run hE 9000 ?_; simp only [Tryz.f14, evX, reduceIte, reduceCtorEq, Nat.reduceLT, Nat.reduceAdd, Nat.reduceEqDiff, Nat.reduceBEq, Nat.reduceLeDiff, Nat.reduceMul, ttL, tyL, ht])
  (refine CallG.ok hE 9000 (hP ▸ ok_IndexFuncN l 32 [idC x] (fun p => idEq p.id x) hl (fun p _ => ok_find1 p x)) rfl rfl ?_ <;> simp only [evX, reduceIte, reduceCtorEq, Nat.reduceLT, Nat.reduceAdd, Nat.reduceEqDiff, Nat.reduceBEq, Nat.reduceLeDiff, Nat.reduceMul, ttL, tyL, ht])
  exact RetQ.c (.inr rfl) rfl rfl
theorem dep_pairs {l : List Qm.Id} {i : Nat} (h : ∀ j (h : j + 1 < l.length), j + 1 < i → idLess l[j] l[j + 1] = true) (hlt : i < l.length) (hl : ∀ h0 : 0 < i, idLess l[i - 1] l[i] = true) : ∀ j (h : j + 1 < l.length), j + 1 < i + 1 → idLess l[j] l[j + 1] = true := fun j hj h' => by
  rcases Nat.lt_or_ge (j + 1) i with h2 | h2
  · exact h j hj h2
  · have e : j + 1 = i := by omega
    subst e
    exact hl (by omega)
end Go.Proofs.YtmfbcgheffdghaaGreat
