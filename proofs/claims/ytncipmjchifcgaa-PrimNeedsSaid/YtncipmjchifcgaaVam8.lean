/- An abstract machine over data (part 8): stores, states, regions in the text's order, code. -/
import Derived.Test.YtncipmjchifcgaaVam7
namespace Go.Vam
open Go.RowKit
set_option linter.unusedVariables false
set_option linter.unusedSimpArgs false

/-! ### 1. Stores -/
section
variable {P : Program} {tt : TT} {base : Nat} {w0 : World} {Z : Zone} {β : Nat → Value} {cr lv fz : Nat → Prop} {bx : Nat → Option Bx} {nb : Nat} {w : World} {a : Act} {o : Oper} {ρ : Operand → AV} {deadl fzl : List Nat}

/-- A box takes other cells: the world behind it. -/
theorem WR.store {b g : Nat} {x x' : Bx} {arr arr' : Array Value} {t : TypeId} (hW : WR base w0 Z β cr lv fz bx w) (hlv : lv b) (hbx : bx b = some x) (hblk : blk (β b) = some g) (hh : w.heap[g]? = some (.cells arr t (0, 0)))
    (hnz : ∀ a, Z a → a.block ≠ g) (hbox : BoxR base Z (w.setRow g arr') β cr fz b x') :
    WR base w0 Z β cr lv fz (upd bx b (some x')) (w.setRow g arr') ∧ Ext Z Z w (w.setRow g arr') := by
  have hg : w.grownBy (w.setRow g arr') (some g) := ⟨rfl, rfl, rfl, by simp, fun k hk hk' => setRow_other w g k _ (fun e => hk' (by rw [e]))⟩
  have he : Ext Z Z w (w.setRow g arr') := ext_of_grown hg hW.zin (fun a ha e => hnz a ha (by simpa using e))
  obtain ⟨y, hy, hB⟩ := hW.box b hlv
  have hbg := (hB.blk_base hblk).1
  refine ⟨⟨hW.below.grown hg hW.hbase (fun k e => by injection e with e; omega), Nat.le_trans hW.hbase hg.size, fun a ha => Nat.lt_of_lt_of_le (hW.zin a ha) hg.size, hW.zsp, fun b' hl => ?_, hW.dis, hW.sub, hW.oth.trans (.of_grownBy hg fun j o hj ho => by injection hj with hj; subst hj; rw [hh] at ho; injection ho with ho; subst ho; rfl)⟩, he⟩
  by_cases hbb : b' = b
  · subst hbb
    exact ⟨x', by simp [upd], hbox⟩
  · obtain ⟨z, hz, hB'⟩ := hW.box b' hl
    refine ⟨z, by simp [upd, hbb, hz], hB'.ext he (fun b h => ⟨h, rfl⟩) (hW.sub b' hl) (fun g' hg' => hg.block g' (hB'.blk_base hg').2 (fun e => ?_)) (fun g' hg' a ha e => .inl ha) id⟩
    injection e with e
    subst e
    exact hW.dis b' b g' hl hlv hbb hg' hblk

theorem splice_get {α : Type} (l m : List α) (off i : Nat) (h : off + m.length ≤ l.length) : (l.take off ++ m ++ l.drop (off + m.length))[i]? = if off ≤ i ∧ i < off + m.length then m[i - off]? else l[i]? := by
  have hlt : (l.take off).length = off := by simp; omega
  by_cases h1 : i < off
  · rw [if_neg (by omega), List.append_assoc, List.getElem?_append_left (by omega), List.getElem?_take, if_pos h1]
  · by_cases h2 : i < off + m.length
    · rw [if_pos (by omega), List.append_assoc, List.getElem?_append_right (by omega), List.getElem?_append_left (by omega), hlt]
    · rw [if_neg (by omega), List.getElem?_append_right (by simp; omega), List.getElem?_drop]
      congr 1
      simp only [List.length_append, hlt]
      omega

theorem op_storePtr {t : TypeId} {x y : Operand} {i : TyI} {b off : Nat} {cs m : List AV} {r : AV} (ho : o.op = .store t x y) (hty : tyOk P t i = true) (hm : m.length = i.n) (hlen : off + i.n ≤ cs.length)
    (hW : WR base w0 Z β cr lv fz bx w) (hdead : ∀ b, cr b → b ∉ deadl → lv b) (hx : AR Z w β cr (.ptr b off) (a.eval x)) (hlv : lv b) (hb : bx b = some (.cells cs)) (hnf : ¬ fz b)
    (hy : AR Z w β cr r (a.eval y)) (hr : stOf bx deadl r = some m) :
    ∃ w', (execOp a.eval o).run P w = .ok .skip w' ∧ WR base w0 Z β cr lv fz (upd bx b (some (.cells (cs.take off ++ m ++ cs.drop (off + m.length))))) w' ∧ Ext Z Z w w' := by
  obtain ⟨_, ⟨inf, hinf, hinfn, _⟩, _⟩ := tyOk_spec hty
  obtain ⟨s1, s2⟩ := stOf_sound hW (fun b _ h1 h2 => ⟨hdead b h1 h2, rfl⟩) hy hr
  have hS : (sizeOf t).run P w = .ok i.n w := by simp [sizeOf, typeInfo, hinf, hinfn]
  generalize hq : a.eval x = q at hx
  cases hx with
  | ptr b off g hcb h =>
    obtain ⟨xx, hxx, hB⟩ := hW.box b hlv
    rw [hb] at hxx
    injection hxx with hxx
    subst hxx
    cases hB with
    | cells cs g' arr ty hv hg hh hl hc hz =>
      have hgg : g' = g := by rw [hv] at h; simpa using h
      subst hgg
      have hst := run_storeCells_at P g' off ty (a.eval y).cells.toList 0 arr w hh (by simp; omega) (fun u hu => by
        obtain ⟨k, hk⟩ := List.mem_iff_getElem?.1 hu
        have hkl : k < m.length := by rw [← s1]; have := (List.getElem?_eq_some_iff.1 hk).1; simpa using this
        exact (s2 k _ u (List.getElem?_eq_getElem hkl) (by simpa using hk)).2)
      simp only [Nat.add_zero] at hst
      have hrunok : (execOp a.eval o).run P w = .ok .skip (w.setRow g' (arr.toList.take off ++ (a.eval y).cells.toList ++ arr.toList.drop (off + (a.eval y).cells.toList.length)).toArray) := by
        have hne : ¬ ((a.eval y).cells.size ≠ i.n) := by rw [s1, hm]; simp
        simp only [execOp, ho, Instr.storeAt, hq, Instr.sureAddr, storeVar, Sem.run_bind, Sem.run_pure, Result.andThen_ok, hS]
        rw [if_neg hne]
        simp only [hst, Result.andThen_ok]
      refine ⟨_, hrunok, WR.store hW hlv hb (by rw [hv]; rfl) hh (hz hnf) ?_⟩
      · have hvl : (a.eval y).cells.toList.length = m.length := by rw [Array.length_toList, s1]
        have hgr : w.grownBy (w.setRow g' (arr.toList.take off ++ (a.eval y).cells.toList ++ arr.toList.drop (off + (a.eval y).cells.toList.length)).toArray) (some g') := ⟨rfl, rfl, rfl, by simp, fun k hk hk' => setRow_other w g' k _ (fun e => hk' (by rw [e]))⟩
        have he : Ext Z Z w _ := ext_of_grown hgr hW.zin (fun a ha e => hz hnf a ha (by simpa using e))
        refine .cells _ g' _ ty hv hg (setRow_heap w g' arr _ ty _ hh) ?_ (fun k z u h1 h2 => ?_) hz
        · simp only [List.size_toArray, List.length_append, List.length_take, List.length_drop, Array.length_toList]
          rw [s1]
          omega
        · rw [splice_get cs m off k (by omega)] at h1
          rw [List.getElem?_toArray, splice_get arr.toList _ off k (by rw [hvl]; simp; omega)] at h2
          rw [hvl] at h2
          split at h1
          · rename_i hk
            rw [if_pos hk] at h2
            exact (s2 _ z u h1 (by simpa using h2)).1.ext he (fun b h => ⟨h, rfl⟩)
          · rename_i hk
            rw [if_neg hk] at h2
            exact (hc k z u h1 (by simpa using h2)).ext he (fun b h => ⟨h, rfl⟩)
theorem op_storeOptr {t : TypeId} {x y : Operand} {i : TyI} {b off e sz j : Nat} {rs : List (List C)} {row m : List C} {r : AV} (ho : o.op = .store t x y) (hty : tyOk P t i = true) (hm : m.length = i.n) (hrow : rs[j]? = some row) (hj : j * sz ≤ off) (hlen : off - j * sz + i.n ≤ row.length)
    (hW : WR base w0 Z β cr lv fz bx w) (hx : AR Z w β cr (.optr b off) (a.eval x)) (hlv : lv b) (hb : bx b = some (.rows e sz rs)) (hnf : ¬ fz b)
    (hy : AR Z w β cr r (a.eval y)) (hr : rowOf r = some m) :
    ∃ w', (execOp a.eval o).run P w = .ok .skip w' ∧ WR base w0 Z β cr lv fz (upd bx b (some (.rows e sz (rs.set j (row.take (off - j * sz) ++ m ++ row.drop (off - j * sz + m.length)))))) w' ∧ Ext Z Z w w' := by
  obtain ⟨_, ⟨inf, hinf, hinfn, _⟩, _⟩ := tyOk_spec hty
  obtain ⟨s1, s2⟩ := hy.rowOf hr
  have hS : (sizeOf t).run P w = .ok i.n w := by simp [sizeOf, typeInfo, hinf, hinfn]
  generalize hq : a.eval x = q at hx
  cases hx with
  | optr b off g n cap hcb h =>
    obtain ⟨xx, hxx, hB⟩ := hW.box b hlv
    rw [hb] at hxx
    injection hxx with hxx
    subst hxx
    cases hB with
    | rows e sz rs inner hown hr' hc ht hz =>
      have hsz := hr' j row hrow
      have hjl := (List.getElem?_eq_some_iff.1 hrow).1
      have hmul : j * sz + sz ≤ rs.length * sz := by rw [← Nat.succ_mul]; exact Nat.mul_le_mul_right _ hjl
      rcases hown.2 with ⟨hv, hn⟩ | ⟨g', cap', cur, hv, hbs, hh, hnc, hcm, hcs, htake⟩
      · rw [hv] at h; simp at h
      · have hgg : g' = g := by rw [hv] at h; simp at h; exact h.1
        subst hgg
        have hcapsz : rs.length * sz ≤ cap' * sz := Nat.mul_le_mul_right _ hnc
        have hst := run_storeCells_at P g' off e (a.eval y).cells.toList 0 cur w hh (by simp; omega) (fun u hu => by
          obtain ⟨k, hk⟩ := List.mem_iff_getElem?.1 hu
          have hkl : k < m.length := by rw [← s1]; have := (List.getElem?_eq_some_iff.1 hk).1; simpa using this
          exact (s2 k _ u (List.getElem?_eq_getElem hkl) (by simpa using hk)).one)
        simp only [Nat.add_zero] at hst
        have hvl : (a.eval y).cells.toList.length = m.length := by rw [Array.length_toList, s1]
        have hob : (β b).ownBlock = some g' := by rw [hv]; rfl
        have hrunok : (execOp a.eval o).run P w = .ok .skip (w.setRow g' (cur.toList.take off ++ (a.eval y).cells.toList ++ cur.toList.drop (off + (a.eval y).cells.toList.length)).toArray) := by
          have hne : ¬ ((a.eval y).cells.size ≠ i.n) := by rw [s1, hm]; simp
          simp only [execOp, ho, Instr.storeAt, hq, Instr.sureAddr, storeVar, Sem.run_bind, Sem.run_pure, Result.andThen_ok, hS]
          rw [if_neg hne]
          simp only [hst, Result.andThen_ok]
        refine ⟨_, hrunok, WR.store hW hlv hb (by rw [hv]; rfl) hh (hz hnf g' hob) ?_⟩
        · have hgr : w.grownBy (w.setRow g' (cur.toList.take off ++ (a.eval y).cells.toList ++ cur.toList.drop (off + (a.eval y).cells.toList.length)).toArray) (some g') := ⟨rfl, rfl, rfl, by simp, fun k hk hk' => setRow_other w g' k _ (fun e => hk' (by rw [e]))⟩
          have he : Ext Z Z w _ := ext_of_grown hgr hW.zin (fun a ha e => hz hnf g' hob a ha (by simpa using e))
          have hlr : (row.take (off - j * sz) ++ m ++ row.drop (off - j * sz + m.length)).length = sz := by
            simp only [List.length_append, List.length_take, List.length_drop]
            omega
          refine .rows e sz _ ((cur.toList.take off ++ (a.eval y).cells.toList ++ cur.toList.drop (off + (a.eval y).cells.toList.length)).take (rs.length * sz)) ⟨?_, .inr ⟨g', cap', _, by rw [List.length_set]; exact hv, hbs, setRow_heap w g' cur _ e _ hh, by rw [List.length_set]; exact hnc, hcm, ?_, ?_⟩⟩ (fun j' row' hj' => ?_) (fun j' row' k c u h1 h2 h3 => ?_) (fun g0 hg0 a ha e1 => ?_) hz
          · rw [List.length_take, List.length_set]
            simp only [List.length_append, List.length_take, List.length_drop, Array.length_toList]
            rw [s1]
            omega
          · simp only [List.size_toArray, List.length_append, List.length_take, List.length_drop, Array.length_toList]
            rw [s1]
            omega
          · rw [List.length_set]
          · by_cases hjj : j = j'
            · subst hjj
              rw [List.getElem?_set_self hjl] at hj'
              simp only [Option.some.injEq] at hj'
              subst hj'
              exact hlr
            · rw [List.getElem?_set_ne hjj] at hj'
              exact hr' j' row' hj'
          · have hj'l : j' < rs.length := by have := (List.getElem?_eq_some_iff.1 h1).1; simpa using this
            have hmul' : j' * sz + sz ≤ rs.length * sz := by rw [← Nat.succ_mul]; exact Nat.mul_le_mul_right _ hj'l
            rw [List.getElem?_take] at h3
            split at h3
            · rw [splice_get cur.toList _ off _ (by rw [hvl]; simp; omega), hvl] at h3
              have hold : ∀ (k0 : Nat), k0 < rs.length * sz → cur.toList[k0]? = inner[k0]? := fun k0 hk0 => by
                rw [← htake, List.getElem?_take, if_pos hk0]
              by_cases hjj : j = j'
              · subst hjj
                rw [List.getElem?_set_self hjl] at h1
                simp only [Option.some.injEq] at h1
                subst h1
                have hk : k < sz := by rw [← hlr]; exact (List.getElem?_eq_some_iff.1 h2).1
                rw [splice_get row m _ k (by omega)] at h2
                split at h2
                · rename_i hkk
                  rw [if_pos (by omega)] at h3
                  refine (s2 _ c u h2 ?_).ext he
                  rw [show j * sz + k - off = k - (off - j * sz) by omega] at h3
                  simpa using h3
                · rename_i hkk
                  rw [if_neg (by omega), hold _ (by omega)] at h3
                  exact (hc j row k c u hrow h2 h3).ext he
              · rw [List.getElem?_set_ne hjj] at h1
                have hk : k < sz := by rw [← hr' j' row' h1]; exact (List.getElem?_eq_some_iff.1 h2).1
                have hfar : ¬ (off ≤ j' * sz + k ∧ j' * sz + k < off + m.length) := by
                  rcases Nat.lt_or_gt_of_ne hjj with hlt | hgt
                  · have : j * sz + sz ≤ j' * sz := by rw [← Nat.succ_mul]; exact Nat.mul_le_mul_right _ hlt
                    omega
                  · have : j' * sz + sz ≤ j * sz := by rw [← Nat.succ_mul]; exact Nat.mul_le_mul_right _ hgt
                    omega
                rw [if_neg hfar, hold _ (by omega)] at h3
                exact (hc j' row' k c u h1 h2 h3).ext he
            · cases h3
          · rw [List.length_set]
            exact ht g0 hg0 a ha e1
end
end Go.Vam
