/- The program's functions, walked (part 2). -/
import Derived.Test.YtmfbcgheffdghaaGreatS1
import Derived.Test.YtmfbcgheffdghaaGreatG11
/- The document's Tidy; Tight; the statements of layer 11. -/
namespace Go.Proofs.YtmfbcgheffdghaaGreat
open Go.Vam Go.Qm
set_option linter.unusedVariables false
set_option linter.unusedSimpArgs false
set_option maxRecDepth 8000

def aw11 : List Prim := [⟨0, ⟨#[97]⟩, ⟨#[]⟩, ⟨0, [], []⟩⟩, ⟨0, ⟨#[98]⟩, ⟨#[]⟩, ⟨0, [], []⟩⟩, ⟨1, ⟨#[98]⟩, ⟨#[]⟩, ⟨0, [], []⟩⟩, ⟨1, ⟨#[97]⟩, ⟨#[]⟩, ⟨0, [], []⟩⟩]
theorem aw11_B : ∀ p ∈ aw11, primB p := by
  intro p hp
  simp only [aw11, List.mem_cons, List.not_mem_nil, or_false] at hp
  rcases hp with rfl | rfl | rfl | rfl <;> exact ⟨by simp, by simp⟩
theorem aw11_len : aw11.length * 96 ≤ 140737488355328 := by simp [aw11]
theorem aw11_tidy : tidyL aw11 = [] ∧ (tidyL (aw11.take 1)).length = 1 ∧ (tidyL (aw11.take 2)).length = 2 := by decide +kernel
end Go.Proofs.YtmfbcgheffdghaaGreat

/- The statements of layer 11. -/
namespace Go.Proofs.YtmfbcgheffdghaaGreat
open Go.Vam Go.Qm
set_option linter.unusedVariables false
set_option linter.unusedSimpArgs false
set_option maxRecDepth 8000

theorem turnL_B {l : List Prim} (hB : ∀ p ∈ l, primB p) : ∀ p ∈ turnL l, primB p := by
  intro p hp
  obtain ⟨q, hq, rfl⟩ := List.mem_map.1 hp
  exact turnP_B (hB q (by simpa using hq))
end Go.Proofs.YtmfbcgheffdghaaGreat

/- Lines and names: what the functions upon them tell. -/
namespace Go.Proofs.YtmfbcgheffdghaaGreat
open Go.Vam Go.Qm
set_option linter.unusedVariables false
set_option linter.unusedSimpArgs false
set_option maxRecDepth 8000

theorem ext_index (s : Str) (c : Int) : ExtOk Tryz.prog 149 [.string s, .int .u8 c] (.int .i64 (Lib.indexByte s.data.toList c.toNat.toUInt8)) :=
  indexByte_ok Tryz.func149 (by kernel_rfl) (by kernel_rfl) (by kernel_rfl) (by kernel_rfl) s c
theorem ok_lIndexByte (s : Str) : Ok Tryz.prog 146 [strA s, .c (.sc (.int .u8 10))] (.v (intA (Lib.indexByte s.data.toList 10))) := by
  (refine Ok.code hT hM (fn := Tryz.f146) rfl rfl rfl _ _ rfl rfl (Nat.le_of_ble_eq_true rfl) fun E hE hP ht h0 hrd => ?_; refine Go.run hE 9000 ?_; simp only [Tryz.f146, evX, reduceIte, reduceCtorEq, Nat.reduceLT, Nat.reduceAdd, Nat.reduceEqDiff, Nat.reduceBEq, Nat.reduceLeDiff, Nat.reduceMul, ttL, tyL, ht])
  refine CallG.ext hE hP 9000 (ext_index s 10) rfl rfl ?_
  simp only [evX, reduceIte, reduceCtorEq, Nat.reduceLT, Nat.reduceAdd, Nat.reduceEqDiff, Nat.reduceBEq, Nat.reduceLeDiff, Nat.reduceMul, ttL, tyL, ht]
  exact RetQ.c (.inr rfl) rfl rfl
theorem ok_IndexByte (s : Str) : Ok Tryz.prog 142 [strA s, .c (.sc (.int .u8 10))] (.v (intA (Lib.indexByte s.data.toList 10))) := by
  (refine Ok.code hT hM (fn := Tryz.f142) rfl rfl rfl _ _ rfl rfl (Nat.le_of_ble_eq_true rfl) fun E hE hP ht h0 hrd => ?_; refine Go.run hE 9000 ?_; simp only [Tryz.f142, evX, reduceIte, reduceCtorEq, Nat.reduceLT, Nat.reduceAdd, Nat.reduceEqDiff, Nat.reduceBEq, Nat.reduceLeDiff, Nat.reduceMul, ttL, tyL, ht])
  (refine CallG.ok hE 9000 (hP ▸ ok_lIndexByte s) rfl rfl ?_ <;> simp only [evX, reduceIte, reduceCtorEq, Nat.reduceLT, Nat.reduceAdd, Nat.reduceEqDiff, Nat.reduceBEq, Nat.reduceLeDiff, Nat.reduceMul, ttL, tyL, ht])
  exact RetQ.c (.inr rfl) rfl rfl
theorem ok_textMay (s : Str) : Ok Tryz.prog 134 [strA s] (.v (boolA (lineOk s))) := by
  (refine Ok.code hT hM (fn := Tryz.f134) rfl rfl rfl _ _ rfl rfl (Nat.le_of_ble_eq_true rfl) fun E hE hP ht h0 hrd => ?_; refine Go.run hE 9000 ?_; simp only [Tryz.f134, evX, reduceIte, reduceCtorEq, Nat.reduceLT, Nat.reduceAdd, Nat.reduceEqDiff, Nat.reduceBEq, Nat.reduceLeDiff, Nat.reduceMul, ttL, tyL, ht])
  ((first | refine SelF.byN (fun hb => ?_) (fun hb => ?_) | refine SelF.by (fun hb => ?_) (fun hb => ?_)) <;> simp only [hb, evX, reduceIte, reduceCtorEq, Nat.reduceLT, Nat.reduceAdd, Nat.reduceEqDiff, Nat.reduceBEq, Nat.reduceLeDiff, Nat.reduceMul, ttL, tyL, ht])
  · (refine CallG.ok hE 9000 (hP ▸ ok_IndexByte s) rfl rfl ?_ <;> simp only [evX, reduceIte, reduceCtorEq, Nat.reduceLT, Nat.reduceAdd, Nat.reduceEqDiff, Nat.reduceBEq, Nat.reduceLeDiff, Nat.reduceMul, ttL, tyL, ht])
    exact RetQ.bool (.inr rfl) rfl (by rw [index_noFeed, lineOk, hb]; rfl)
  · exact RetQ.bool (.inr rfl) rfl (by rw [lineOk, hb]; rfl)
theorem ok_textAll1 (s : Str) : Ok Tryz.prog 133 [strA s] (.v (boolA (!lineOk s))) := by
  (refine Ok.code hT hM (fn := Tryz.f133) rfl rfl rfl _ _ rfl rfl (Nat.le_of_ble_eq_true rfl) fun E hE hP ht h0 hrd => ?_; refine Go.run hE 9000 ?_; simp only [Tryz.f133, evX, reduceIte, reduceCtorEq, Nat.reduceLT, Nat.reduceAdd, Nat.reduceEqDiff, Nat.reduceBEq, Nat.reduceLeDiff, Nat.reduceMul, ttL, tyL, ht])
  (refine CallG.ok hE 9000 (hP ▸ ok_textMay s) rfl rfl ?_ <;> simp only [evX, reduceIte, reduceCtorEq, Nat.reduceLT, Nat.reduceAdd, Nat.reduceEqDiff, Nat.reduceBEq, Nat.reduceLeDiff, Nat.reduceMul, ttL, tyL, ht])
  exact RetQ.bool (.inr rfl) rfl rfl
theorem ok_IndexFuncStr (l : List Str) (g : Nat) (caps : List (List C)) (f : Str → Bool) (hl : l.length < 9223372036854775807) (hok : ∀ s ∈ l, Ok Tryz.prog g (strA s :: caps.map .pt) (.v (boolA (f s)))) :
    Ok Tryz.prog 117 [strsA l, .c (.fn g caps)] (.v (intA (idxI f l))) := by
  (refine Ok.code hT hM (fn := Tryz.f117) rfl rfl rfl _ _ rfl rfl (Nat.le_of_ble_eq_true rfl) fun E hE hP ht h0 hrd => ?_; refine Go.run hE 9000 ?_; simp only [Tryz.f117, evX, reduceIte, reduceCtorEq, Nat.reduceLT, Nat.reduceAdd, Nat.reduceEqDiff, Nat.reduceBEq, Nat.reduceLeDiff, Nat.reduceMul, ttL, tyL, ht])
  refine Loop.by hE (ι := {i : Nat // i ≤ l.length ∧ (l.take i).any f = false}) (fun i => ⟨19, [(0, strsA l), (1, .c (.fn g caps)), (7, intA l.length), (8, intA i.1)], [], [], []⟩) (fun i => l.length - i.1) ⟨0, by simp⟩ 9000 ⟨[], Wk.of rfl (by simp) (by rw [h0]; simp [fixB]) (by simp [wkT, okA, wkP, cloE, Vam.look, sig, ]) (by simp [wkBs, setBx, nthB, wkBx, wkL, okA, wkP, cloE, sig, ]) (by simp) (by simp)⟩ (by simp [h0]) ?_
  rintro ⟨i, hi, hall⟩
  simp only [evX, reduceIte, reduceCtorEq, Nat.reduceLT, Nat.reduceAdd, Nat.reduceEqDiff, Nat.reduceBEq, Nat.reduceLeDiff, Nat.reduceMul, ttL, tyL, ht]
  ((first | refine SelF.byN (fun hb => ?_) (fun hb => ?_) | refine SelF.by (fun hb => ?_) (fun hb => ?_)) <;> simp only [hb, evX, reduceIte, reduceCtorEq, Nat.reduceLT, Nat.reduceAdd, Nat.reduceEqDiff, Nat.reduceBEq, Nat.reduceLeDiff, Nat.reduceMul, ttL, tyL, ht])
  · simp only [decide_eq_true_eq] at hb
    have hlt : i < l.length := by omega
    refine IdxR.nat hE 9000 hlt rfl ?_
    simp only [evX, reduceIte, reduceCtorEq, Nat.reduceLT, Nat.reduceAdd, Nat.reduceEqDiff, Nat.reduceBEq, Nat.reduceLeDiff, Nat.reduceMul, ttL, tyL, ht]
    refine CallG.ok hE 9000 (hP ▸ hok l[i] (List.getElem_mem hlt)) (by rw [← mapN_eq]; rfl) rfl ?_
    simp only [evX, reduceIte, reduceCtorEq, Nat.reduceLT, Nat.reduceAdd, Nat.reduceEqDiff, Nat.reduceBEq, Nat.reduceLeDiff, Nat.reduceMul, ttL, tyL, ht]
    ((first | refine SelF.byN (fun hb => ?_) (fun hb => ?_) | refine SelF.by (fun hb => ?_) (fun hb => ?_)) <;> simp only [hb, evX, reduceIte, reduceCtorEq, Nat.reduceLT, Nat.reduceAdd, Nat.reduceEqDiff, Nat.reduceBEq, Nat.reduceLeDiff, Nat.reduceMul, ttL, tyL, ht])
    · exact RetQ.c (.inr rfl) rfl (by rw [idxI_at hlt hall hb])
    · refine ⟨⟨i + 1, by omega, by rw [any_take hlt, hall, hb]; rfl⟩, [], Wk.of rfl (by simp) (by rw [h0]; simp [fixB]) (by simp [wkT, okA, wkP, cloE, Vam.look, sig, wrapN i (by omega)]) (by simp [wkBs, setBx, nthB, wkBx, wkL, okA, wkP, cloE, sig, wrapN i (by omega)]) (by simp) (by simp), by simp only; omega⟩
  · exact RetQ.c (.inr rfl) rfl (by rw [idxI_none hi (by simpa using hb) hall])
theorem ok_ContainsFuncStr (l : List Str) (g : Nat) (caps : List (List C)) (f : Str → Bool) (hl : l.length < 9223372036854775807) (hok : ∀ s ∈ l, Ok Tryz.prog g (strA s :: caps.map .pt) (.v (boolA (f s)))) :
    Ok Tryz.prog 99 [strsA l, .c (.fn g caps)] (.v (boolA (l.any f))) := by
  (refine Ok.code hT hM (fn := Tryz.f99) rfl rfl rfl _ _ rfl rfl (Nat.le_of_ble_eq_true rfl) fun E hE hP ht h0 hrd => ?_; refine Go.run hE 9000 ?_; simp only [Tryz.f99, evX, reduceIte, reduceCtorEq, Nat.reduceLT, Nat.reduceAdd, Nat.reduceEqDiff, Nat.reduceBEq, Nat.reduceLeDiff, Nat.reduceMul, ttL, tyL, ht])
  (refine CallG.ok hE 9000 (hP ▸ ok_IndexFuncStr l g caps f hl hok) rfl rfl ?_ <;> simp only [evX, reduceIte, reduceCtorEq, Nat.reduceLT, Nat.reduceAdd, Nat.reduceEqDiff, Nat.reduceBEq, Nat.reduceLeDiff, Nat.reduceMul, ttL, tyL, ht])
  exact RetQ.bool (.inr rfl) rfl (idxI_nn f l)
theorem ok_textAll (l : List Str) : Ok Tryz.prog 119 [strsA l] (.v (boolA (linesOk l))) := by
  (refine Ok.code hT hM (fn := Tryz.f119) rfl rfl rfl _ _ rfl rfl (Nat.le_of_ble_eq_true rfl) fun E hE hP ht h0 hrd => ?_; refine Go.run hE 9000 ?_; simp only [Tryz.f119, evX, reduceIte, reduceCtorEq, Nat.reduceLT, Nat.reduceAdd, Nat.reduceEqDiff, Nat.reduceBEq, Nat.reduceLeDiff, Nat.reduceMul, ttL, tyL, ht])
  ((first | refine SelF.byN (fun hb => ?_) (fun hb => ?_) | refine SelF.by (fun hb => ?_) (fun hb => ?_)) <;> simp only [hb, evX, reduceIte, reduceCtorEq, Nat.reduceLT, Nat.reduceAdd, Nat.reduceEqDiff, Nat.reduceBEq, Nat.reduceLeDiff, Nat.reduceMul, ttL, tyL, ht])
  · (refine CallG.ok hE 9000 (hP ▸ ok_ContainsFuncStr l 133 [] (fun s => !lineOk s) (by simp at hb; omega) (fun s _ => ok_textAll1 s)) rfl rfl ?_ <;> simp only [evX, reduceIte, reduceCtorEq, Nat.reduceLT, Nat.reduceAdd, Nat.reduceEqDiff, Nat.reduceBEq, Nat.reduceLeDiff, Nat.reduceMul, ttL, tyL, ht])
    exact RetQ.bool (.inr rfl) rfl (by rw [any_not, linesOk]; simp at hb ⊢; intro _; exact hb)
  · exact RetQ.bool (.inr rfl) rfl (by rw [linesOk]; simp at hb ⊢; intro _; omega)
theorem ok_sign (c : Int) : Ok Tryz.prog 130 [.c (.sc (.int .u8 c))] (.v (boolA (signB c))) := by
  (refine Ok.code hT hM (fn := Tryz.f130) rfl rfl rfl _ _ rfl rfl (Nat.le_of_ble_eq_true rfl) fun E hE hP ht h0 hrd => ?_; refine Go.run hE 9000 ?_; simp only [Tryz.f130, evX, reduceIte, reduceCtorEq, Nat.reduceLT, Nat.reduceAdd, Nat.reduceEqDiff, Nat.reduceBEq, Nat.reduceLeDiff, Nat.reduceMul, ttL, tyL, ht])
  repeat' ((first | refine SelF.byN (fun hb => ?_) (fun hb => ?_) | refine SelF.by (fun hb => ?_) (fun hb => ?_)) <;> simp only [hb, evX, reduceIte, reduceCtorEq, Nat.reduceLT, Nat.reduceAdd, Nat.reduceEqDiff, Nat.reduceBEq, Nat.reduceLeDiff, Nat.reduceMul, ttL, tyL, ht])
  all_goals exact RetQ.bool (.inr rfl) rfl (by simp_all [signB] <;> (rw [Bool.eq_iff_iff]; simp; omega))
theorem ok_textName (s : Str) (hs : strZ s) : Ok Tryz.prog 111 [strA s] (.v (boolA (nameOk s))) := by
  have hs' : s.size ≤ 140737488351232 := hs
  have hbl := bytesL_len s
  (refine Ok.code hT hM (fn := Tryz.f111) rfl rfl rfl _ _ rfl rfl (Nat.le_of_ble_eq_true rfl) fun E hE hP ht h0 hrd => ?_; refine Go.run hE 9000 ?_; simp only [Tryz.f111, evX, reduceIte, reduceCtorEq, Nat.reduceLT, Nat.reduceAdd, Nat.reduceEqDiff, Nat.reduceBEq, Nat.reduceLeDiff, Nat.reduceMul, ttL, tyL, ht])
  refine Loop.by hE (ι := {i : Nat // i ≤ s.size ∧ ((bytesL s).take i).all signB = true}) (fun i => ⟨22, [(0, strA s), (5, intA s.size), (6, intA i.1)], [], [], []⟩) (fun i => s.size - i.1) ⟨0, by simp⟩ 9000 ⟨[], Wk.of rfl (by simp) (by rw [h0]; simp [fixB]) (by simp [wkT, okA, wkP, cloE, Vam.look, sig, ]) (by simp [wkBs, setBx, nthB, wkBx, wkL, okA, wkP, cloE, sig, ]) (by simp) (by simp)⟩ (by simp [h0]) ?_
  rintro ⟨i, hi, hall⟩
  simp only [evX, reduceIte, reduceCtorEq, Nat.reduceLT, Nat.reduceAdd, Nat.reduceEqDiff, Nat.reduceBEq, Nat.reduceLeDiff, Nat.reduceMul, ttL, tyL, ht]
  ((first | refine SelF.byN (fun hb => ?_) (fun hb => ?_) | refine SelF.by (fun hb => ?_) (fun hb => ?_)) <;> simp only [hb, evX, reduceIte, reduceCtorEq, Nat.reduceLT, Nat.reduceAdd, Nat.reduceEqDiff, Nat.reduceBEq, Nat.reduceLeDiff, Nat.reduceMul, ttL, tyL, ht])
  · simp only [decide_eq_true_eq] at hb
    have hlt : i < s.size := by omega
    have hlb : i < (bytesL s).length := by omega
    refine IdxS.by hE 9000 (by omega) (by omega) ?_
    simp only [evX, reduceIte, reduceCtorEq, Nat.reduceLT, Nat.reduceAdd, Nat.reduceEqDiff, Nat.reduceBEq, Nat.reduceLeDiff, Nat.reduceMul, ttL, tyL, ht]
    (refine CallG.ok hE 9000 (hP ▸ ok_sign (byteAt s i)) rfl rfl ?_ <;> simp only [evX, reduceIte, reduceCtorEq, Nat.reduceLT, Nat.reduceAdd, Nat.reduceEqDiff, Nat.reduceBEq, Nat.reduceLeDiff, Nat.reduceMul, ttL, tyL, ht])
    ((first | refine SelF.byN (fun hb => ?_) (fun hb => ?_) | refine SelF.by (fun hb => ?_) (fun hb => ?_)) <;> simp only [hb, evX, reduceIte, reduceCtorEq, Nat.reduceLT, Nat.reduceAdd, Nat.reduceEqDiff, Nat.reduceBEq, Nat.reduceLeDiff, Nat.reduceMul, ttL, tyL, ht])
    · exact RetQ.bool (.inr rfl) rfl (by rw [nameOk, all_at hlb (by rw [bytesL_get]; exact hb)]; rfl)
    · refine ⟨⟨i + 1, by omega, by rw [all_take hlb, hall, bytesL_get, hb]; rfl⟩, [], Wk.of rfl (by simp) (by rw [h0]; simp [fixB]) (by simp [wkT, okA, wkP, cloE, Vam.look, sig, wrapN i (by omega)]) (by simp [wkBs, setBx, nthB, wkBx, wkL, okA, wkP, cloE, sig, wrapN i (by omega)]) (by simp) (by simp), by simp only; omega⟩
  · have hfull : (bytesL s).all signB = true := all_full (by omega) (by simp at hb; omega) hall
    ((first | refine SelF.byN (fun hb => ?_) (fun hb => ?_) | refine SelF.by (fun hb => ?_) (fun hb => ?_)) <;> simp only [hb, evX, reduceIte, reduceCtorEq, Nat.reduceLT, Nat.reduceAdd, Nat.reduceEqDiff, Nat.reduceBEq, Nat.reduceLeDiff, Nat.reduceMul, ttL, tyL, ht])
    · have h1 : ¬ s.size = 0 := by
        simp [str_beq] at hb
        exact fun h => hb ((size_empty s).2 h)
      exact RetQ.bool (.inr rfl) rfl (by rw [nameOk, hfull]; simp; omega)
    · have h1 : s.size = 0 := by
        simp [str_beq] at hb
        exact (size_empty s).1 hb
      exact RetQ.bool (.inr rfl) rfl (by rw [nameOk, hfull, h1]; rfl)
end Go.Proofs.YtmfbcgheffdghaaGreat

/- Lines, names and hunks: what the document's functions upon them tell; which hunks may be. -/
namespace Go.Proofs.YtmfbcgheffdghaaGreat
open Go.Vam Go.Qm
set_option linter.unusedVariables false
set_option linter.unusedSimpArgs false
set_option maxRecDepth 8000

theorem ok_ref01May (s : Str) (hs : strZ s) : Ok Tryz.prog 141 [strA s] (.v (boolA (lineOk s))) := by
  have hs' : s.size ≤ 140737488351232 := hs
  have hbl := bytesL_len s
  (refine Ok.code hT hM (fn := Tryz.f141) rfl rfl rfl _ _ rfl rfl (Nat.le_of_ble_eq_true rfl) fun E hE hP ht h0 hrd => ?_; refine Go.run hE 9000 ?_; simp only [Tryz.f141, evX, reduceIte, reduceCtorEq, Nat.reduceLT, Nat.reduceAdd, Nat.reduceEqDiff, Nat.reduceBEq, Nat.reduceLeDiff, Nat.reduceMul, ttL, tyL, ht])
  refine Loop.by hE (ι := {i : Nat // i ≤ s.size ∧ ((bytesL s).take i).all (fun c => !(c == 10)) = true}) (fun i => ⟨17, [(0, strA s), (3, intA i.1)], [], [], []⟩) (fun i => s.size - i.1) ⟨0, by simp⟩ 9000 ⟨[], Wk.of rfl (by simp) (by rw [h0]; simp [fixB]) (by simp [wkT, okA, wkP, cloE, Vam.look, sig, ]) (by simp [wkBs, setBx, nthB, wkBx, wkL, okA, wkP, cloE, sig, ]) (by simp) (by simp)⟩ (by simp [h0]) ?_
  rintro ⟨i, hi, hall⟩
  simp only [evX, reduceIte, reduceCtorEq, Nat.reduceLT, Nat.reduceAdd, Nat.reduceEqDiff, Nat.reduceBEq, Nat.reduceLeDiff, Nat.reduceMul, ttL, tyL, ht]
  ((first | refine SelF.byN (fun hb => ?_) (fun hb => ?_) | refine SelF.by (fun hb => ?_) (fun hb => ?_)) <;> simp only [hb, evX, reduceIte, reduceCtorEq, Nat.reduceLT, Nat.reduceAdd, Nat.reduceEqDiff, Nat.reduceBEq, Nat.reduceLeDiff, Nat.reduceMul, ttL, tyL, ht])
  · simp only [decide_eq_true_eq] at hb
    have hlt : i < s.size := by omega
    have hlb : i < (bytesL s).length := by omega
    refine IdxS.by hE 9000 (by omega) (by omega) ?_
    simp only [evX, reduceIte, reduceCtorEq, Nat.reduceLT, Nat.reduceAdd, Nat.reduceEqDiff, Nat.reduceBEq, Nat.reduceLeDiff, Nat.reduceMul, ttL, tyL, ht]
    ((first | refine SelF.byN (fun hb => ?_) (fun hb => ?_) | refine SelF.by (fun hb => ?_) (fun hb => ?_)) <;> simp only [hb, evX, reduceIte, reduceCtorEq, Nat.reduceLT, Nat.reduceAdd, Nat.reduceEqDiff, Nat.reduceBEq, Nat.reduceLeDiff, Nat.reduceMul, ttL, tyL, ht])
    · exact RetQ.bool (.inr rfl) rfl (by rw [lineOk, noFeed, all_at hlb (by rw [bytesL_get]; simp at hb ⊢; exact hb)]; simp)
    · refine ⟨⟨i + 1, by omega, by rw [all_take hlb, hall, bytesL_get]; simp at hb ⊢; exact hb⟩, [], Wk.of rfl (by simp) (by rw [h0]; simp [fixB]) (by simp [wkT, okA, wkP, cloE, Vam.look, sig, wrapN i (by omega)]) (by simp [wkBs, setBx, nthB, wkBx, wkL, okA, wkP, cloE, sig, wrapN i (by omega)]) (by simp) (by simp), by simp only; omega⟩
  · have hfull : (bytesL s).all (fun c => !(c == 10)) = true := all_full (by omega) (by simp at hb; omega) hall
    exact RetQ.bool (.inr rfl) rfl (by rw [lineOk, noFeed, hfull]; simp)
theorem ok_ref01All (l : List Str) (hl : l.length < 9223372036854775807) (hz : strsZ l) : Ok Tryz.prog 132 [strsA l] (.v (boolA (linesOk l))) := by
  (refine Ok.code hT hM (fn := Tryz.f132) rfl rfl rfl _ _ rfl rfl (Nat.le_of_ble_eq_true rfl) fun E hE hP ht h0 hrd => ?_; refine Go.run hE 9000 ?_; simp only [Tryz.f132, evX, reduceIte, reduceCtorEq, Nat.reduceLT, Nat.reduceAdd, Nat.reduceEqDiff, Nat.reduceBEq, Nat.reduceLeDiff, Nat.reduceMul, ttL, tyL, ht])
  refine Loop.by hE (ι := {i : Nat // i ≤ l.length ∧ (l.take i).all lineOk = true}) (fun i => ⟨21, [(0, strsA l), (3, intA i.1)], [], [], []⟩) (fun i => l.length - i.1) ⟨0, by simp⟩ 9000 ⟨[], Wk.of rfl (by simp) (by rw [h0]; simp [fixB]) (by simp [wkT, okA, wkP, cloE, Vam.look, sig, ]) (by simp [wkBs, setBx, nthB, wkBx, wkL, okA, wkP, cloE, sig, ]) (by simp) (by simp)⟩ (by simp [h0]) ?_
  rintro ⟨i, hi, hall⟩
  simp only [evX, reduceIte, reduceCtorEq, Nat.reduceLT, Nat.reduceAdd, Nat.reduceEqDiff, Nat.reduceBEq, Nat.reduceLeDiff, Nat.reduceMul, ttL, tyL, ht]
  ((first | refine SelF.byN (fun hb => ?_) (fun hb => ?_) | refine SelF.by (fun hb => ?_) (fun hb => ?_)) <;> simp only [hb, evX, reduceIte, reduceCtorEq, Nat.reduceLT, Nat.reduceAdd, Nat.reduceEqDiff, Nat.reduceBEq, Nat.reduceLeDiff, Nat.reduceMul, ttL, tyL, ht])
  · simp only [decide_eq_true_eq] at hb
    have hlt : i < l.length := by omega
    refine IdxR.nat hE 9000 hlt rfl ?_
    simp only [evX, reduceIte, reduceCtorEq, Nat.reduceLT, Nat.reduceAdd, Nat.reduceEqDiff, Nat.reduceBEq, Nat.reduceLeDiff, Nat.reduceMul, ttL, tyL, ht]
    (refine CallG.ok hE 9000 (hP ▸ ok_ref01May l[i] (hz _ (List.getElem_mem hlt))) rfl rfl ?_ <;> simp only [evX, reduceIte, reduceCtorEq, Nat.reduceLT, Nat.reduceAdd, Nat.reduceEqDiff, Nat.reduceBEq, Nat.reduceLeDiff, Nat.reduceMul, ttL, tyL, ht])
    ((first | refine SelF.byN (fun hb => ?_) (fun hb => ?_) | refine SelF.by (fun hb => ?_) (fun hb => ?_)) <;> simp only [hb, evX, reduceIte, reduceCtorEq, Nat.reduceLT, Nat.reduceAdd, Nat.reduceEqDiff, Nat.reduceBEq, Nat.reduceLeDiff, Nat.reduceMul, ttL, tyL, ht])
    · exact RetQ.bool (.inr rfl) rfl (by rw [linesOk, all_at hlt hb]; simp)
    · refine ⟨⟨i + 1, by omega, by rw [all_take hlt, hall, hb]; rfl⟩, [], Wk.of rfl (by simp) (by rw [h0]; simp [fixB]) (by simp [wkT, okA, wkP, cloE, Vam.look, sig, wrapN i (by omega)]) (by simp [wkBs, setBx, nthB, wkBx, wkL, okA, wkP, cloE, sig, wrapN i (by omega)]) (by simp) (by simp), by simp only; omega⟩
  · have hfull : l.all lineOk = true := all_full (by omega) (by simp at hb; omega) hall
    exact RetQ.bool (.inr rfl) rfl (by rw [linesOk, hfull]; simp)
theorem ok_ref01Name (s : Str) (hs : strZ s) : Ok Tryz.prog 113 [strA s] (.v (boolA (nameOk s))) := by
  have hs' : s.size ≤ 140737488351232 := hs
  have hbl := bytesL_len s
  (refine Ok.code hT hM (fn := Tryz.f113) rfl rfl rfl _ _ rfl rfl (Nat.le_of_ble_eq_true rfl) fun E hE hP ht h0 hrd => ?_; refine Go.run hE 9000 ?_; simp only [Tryz.f113, evX, reduceIte, reduceCtorEq, Nat.reduceLT, Nat.reduceAdd, Nat.reduceEqDiff, Nat.reduceBEq, Nat.reduceLeDiff, Nat.reduceMul, ttL, tyL, ht])
  refine Loop.by hE (ι := {i : Nat // i ≤ s.size ∧ ((bytesL s).take i).all signB = true}) (fun i => ⟨52, [(0, strA s), (3, intA i.1)], [], [], []⟩) (fun i => s.size - i.1) ⟨0, by simp⟩ 9000 ⟨[], Wk.of rfl (by simp) (by rw [h0]; simp [fixB]) (by simp [wkT, okA, wkP, cloE, Vam.look, sig, ]) (by simp [wkBs, setBx, nthB, wkBx, wkL, okA, wkP, cloE, sig, ]) (by simp) (by simp)⟩ (by simp [h0]) ?_
  rintro ⟨i, hi, hall⟩
  simp only [evX, reduceIte, reduceCtorEq, Nat.reduceLT, Nat.reduceAdd, Nat.reduceEqDiff, Nat.reduceBEq, Nat.reduceLeDiff, Nat.reduceMul, ttL, tyL, ht]
  ((first | refine SelF.byN (fun hb => ?_) (fun hb => ?_) | refine SelF.by (fun hb => ?_) (fun hb => ?_)) <;> simp only [hb, evX, reduceIte, reduceCtorEq, Nat.reduceLT, Nat.reduceAdd, Nat.reduceEqDiff, Nat.reduceBEq, Nat.reduceLeDiff, Nat.reduceMul, ttL, tyL, ht])
  · simp only [decide_eq_true_eq] at hb
    have hlt : i < s.size := by omega
    have hlb : i < (bytesL s).length := by omega
    repeat' (first | (refine IdxS.by hE 9000 (by omega) (by omega) ?_; simp only [evX, reduceIte, reduceCtorEq, Nat.reduceLT, Nat.reduceAdd, Nat.reduceEqDiff, Nat.reduceBEq, Nat.reduceLeDiff, Nat.reduceMul, ttL, tyL, ht]) | ((first | refine SelF.byN (fun hb => ?_) (fun hb => ?_) | refine SelF.by (fun hb => ?_) (fun hb => ?_)) <;> simp only [hb, evX, reduceIte, reduceCtorEq, Nat.reduceLT, Nat.reduceAdd, Nat.reduceEqDiff, Nat.reduceBEq, Nat.reduceLeDiff, Nat.reduceMul, ttL, tyL, ht]))
    all_goals first
      | exact RetQ.bool (.inr rfl) rfl (by rw [nameOk, all_at hlb (by rw [bytesL_get]; simp_all [signB] <;> omega)]; rfl)
      | refine ⟨⟨i + 1, by omega, by rw [all_take hlb, hall, bytesL_get]; simp_all [signB] <;> omega⟩, [], Wk.of rfl (by simp) (by rw [h0]; simp [fixB]) (by simp [wkT, okA, wkP, cloE, Vam.look, sig, wrapN i (by omega)]) (by simp [wkBs, setBx, nthB, wkBx, wkL, okA, wkP, cloE, sig, wrapN i (by omega)]) (by simp) (by simp), by simp only; omega⟩
  · have hfull : (bytesL s).all signB = true := all_full (by omega) (by simp at hb; omega) hall
    ((first | refine SelF.byN (fun hb => ?_) (fun hb => ?_) | refine SelF.by (fun hb => ?_) (fun hb => ?_)) <;> simp only [hb, evX, reduceIte, reduceCtorEq, Nat.reduceLT, Nat.reduceAdd, Nat.reduceEqDiff, Nat.reduceBEq, Nat.reduceLeDiff, Nat.reduceMul, ttL, tyL, ht])
    all_goals exact RetQ.bool (.inr rfl) rfl (by rw [nameOk, hfull]; simp at *; omega)
theorem ok_hunkMay (h : Hunk) : Ok Tryz.prog 102 [hunkA h] (.v (boolA (hunkOk h))) := by
  (refine Ok.code hT hM (fn := Tryz.f102) rfl rfl rfl _ _ rfl rfl (Nat.le_of_ble_eq_true rfl) fun E hE hP ht h0 hrd => ?_; refine Go.run hE 9000 ?_; simp only [Tryz.f102, evX, reduceIte, reduceCtorEq, Nat.reduceLT, Nat.reduceAdd, Nat.reduceEqDiff, Nat.reduceBEq, Nat.reduceLeDiff, Nat.reduceMul, ttL, tyL, ht])
  repeat' (first | (refine CallG.ok hE 9000 (hP ▸ ok_textAll h.old) rfl rfl ?_ <;> simp only [evX, reduceIte, reduceCtorEq, Nat.reduceLT, Nat.reduceAdd, Nat.reduceEqDiff, Nat.reduceBEq, Nat.reduceLeDiff, Nat.reduceMul, ttL, tyL, ht]) | (refine CallG.ok hE 9000 (hP ▸ ok_textAll h.new) rfl rfl ?_ <;> simp only [evX, reduceIte, reduceCtorEq, Nat.reduceLT, Nat.reduceAdd, Nat.reduceEqDiff, Nat.reduceBEq, Nat.reduceLeDiff, Nat.reduceMul, ttL, tyL, ht]) | ((first | refine SelF.byN (fun hb => ?_) (fun hb => ?_) | refine SelF.by (fun hb => ?_) (fun hb => ?_)) <;> simp only [hb, evX, reduceIte, reduceCtorEq, Nat.reduceLT, Nat.reduceAdd, Nat.reduceEqDiff, Nat.reduceBEq, Nat.reduceLeDiff, Nat.reduceMul, ttL, tyL, ht]))
  all_goals exact RetQ.bool (.inr rfl) rfl (by simp_all [hunkOk] <;> (intros; omega))
theorem ok_ref05May (h : Hunk) (hB : hunkB h) (hR : hunkR h) : Ok Tryz.prog 114 [hunkA h] (.v (boolA (hunkOk h))) := by
  (refine Ok.code hT hM (fn := Tryz.f114) rfl rfl rfl _ _ rfl rfl (Nat.le_of_ble_eq_true rfl) fun E hE hP ht h0 hrd => ?_; refine Go.run hE 9000 ?_; simp only [Tryz.f114, evX, reduceIte, reduceCtorEq, Nat.reduceLT, Nat.reduceAdd, Nat.reduceEqDiff, Nat.reduceBEq, Nat.reduceLeDiff, Nat.reduceMul, ttL, tyL, ht])
  (refine CallG.ok hE 9000 (hP ▸ ok_ref01All h.old (by have := hB.1; omega) hR.old) rfl rfl ?_ <;> simp only [evX, reduceIte, reduceCtorEq, Nat.reduceLT, Nat.reduceAdd, Nat.reduceEqDiff, Nat.reduceBEq, Nat.reduceLeDiff, Nat.reduceMul, ttL, tyL, ht])
  (refine CallG.ok hE 9000 (hP ▸ ok_ref01All h.new (by have := hB.2; omega) hR.new) rfl rfl ?_ <;> simp only [evX, reduceIte, reduceCtorEq, Nat.reduceLT, Nat.reduceAdd, Nat.reduceEqDiff, Nat.reduceBEq, Nat.reduceLeDiff, Nat.reduceMul, ttL, tyL, ht])
  repeat' ((first | refine SelF.byN (fun hb => ?_) (fun hb => ?_) | refine SelF.by (fun hb => ?_) (fun hb => ?_)) <;> simp only [hb, evX, reduceIte, reduceCtorEq, Nat.reduceLT, Nat.reduceAdd, Nat.reduceEqDiff, Nat.reduceBEq, Nat.reduceLeDiff, Nat.reduceMul, ttL, tyL, ht])
  all_goals exact RetQ.bool (.inr rfl) rfl (by simp_all [hunkOk] <;> (intros; omega))

theorem ok_ref08none (h : Hunk) : Ok Tryz.prog 115 [hunkA h] (.v (boolA (hunkNone h))) := by
  (refine Ok.code hT hM (fn := Tryz.f115) rfl rfl rfl _ _ rfl rfl (Nat.le_of_ble_eq_true rfl) fun E hE hP ht h0 hrd => ?_; refine Go.run hE 9000 ?_; simp only [Tryz.f115, evX, reduceIte, reduceCtorEq, Nat.reduceLT, Nat.reduceAdd, Nat.reduceEqDiff, Nat.reduceBEq, Nat.reduceLeDiff, Nat.reduceMul, ttL, tyL, ht])
  repeat' ((first | refine SelF.byN (fun hb => ?_) (fun hb => ?_) | refine SelF.by (fun hb => ?_) (fun hb => ?_)) <;> simp only [hb, evX, reduceIte, reduceCtorEq, Nat.reduceLT, Nat.reduceAdd, Nat.reduceEqDiff, Nat.reduceBEq, Nat.reduceLeDiff, Nat.reduceMul, ttL, tyL, ht])
  all_goals exact RetQ.bool (.inr rfl) rfl (by simp_all [hunkNone] <;> (rw [Bool.eq_iff_iff]; simp))
end Go.Proofs.YtmfbcgheffdghaaGreat
