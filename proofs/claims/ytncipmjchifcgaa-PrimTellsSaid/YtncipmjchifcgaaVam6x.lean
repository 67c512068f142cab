/- An abstract machine over data (part 6x): calls that take a list of one's own and give it back changed; calls that only read. -/
import Derived.Test.YtncipmjchifcgaaVam6
namespace Go.Vam
open Go.RowKit
set_option linter.unusedVariables false
set_option linter.unusedSimpArgs false

/-- The list comes back with other rows, where it lay or in a new block. -/
def MutR (base : Nat) (w : World) (e sz : Nat) (v : Value) (n' : Nat) (inner' : List Value) (en : Ending) (w' : World) : Prop :=
  ∃ v', en = .returned v' ∧ w'.ownsRow base e sz v' n' inner' ∧ ((w.grownBy w' none ∧ v'.ownBlock = some w.heap.size) ∨ (v'.ownBlock = v.ownBlock ∧ w.grownBy w' v.ownBlock))
/-- slices.Insert of one thing into a list of one's own. -/
def InsOk (P : Program) (f : FuncId) (e sz bytes : Nat) : Prop :=
  Enters P f ∧ ∀ (base : Nat) (w : World) (v vv : Value) (n i : Nat) (inner xs : List Value), w.ownsRow base e sz v n inner → w.ownsRow base e sz vv 1 xs → (∀ g, v.ownBlock = some g → vv.ownBlock ≠ some g) → i ≤ n → (n + 1) * bytes ≤ 140737488355328 →
    (∀ u ∈ inner, u.oneCell' = true) → (∀ u ∈ xs, u.oneCell' = true) → base ≤ w.heap.size → Calls P f #[v, .int .i64 i, vv] w (MutR base w e sz v (n + 1) (inner.take (i * sz) ++ xs ++ inner.drop (i * sz)))
/-- slices.Delete of one thing of a list of one's own. -/
def DelOk (P : Program) (f : FuncId) (e sz : Nat) : Prop :=
  Enters P f ∧ ∀ (base : Nat) (w : World) (v : Value) (n i : Nat) (inner : List Value), w.ownsRow base e sz v n inner → i < n → (∀ u ∈ inner, u.oneCell' = true) → base ≤ w.heap.size →
    Calls P f #[v, .int .i64 i, .int .i64 ((i : Int) + 1)] w (MutR base w e sz v (n - 1) (inner.take (i * sz) ++ inner.drop ((i + 1) * sz)))

section
variable {P : Program} {tt : TT} {base : Nat} {w0 : World} {Z : Zone} {β : Nat → Value} {cr lv fz : Nat → Prop} {bx : Nat → Option Bx} {nb : Nat} {w : World} {a : Act} {o : Oper}
theorem post_mut {b e sz : Nat} {rs rs' : List (List C)} {inner' : List Value} {en : Ending} {w' : World} (hW : WR base w0 Z β cr lv fz bx w) (hlv : lv b) (hnf : ¬ fz b) (hb : bx b = some (.rows e sz rs)) (hnb : ¬ cr nb) (hbx : bx nb = some (.rows e sz rs'))
    (hm : MutR base w e sz (β b) rs'.length inner' en w') (hrl : ∀ (j : Nat) (row : List C), rs'[j]? = some row → row.length = sz)
    (hc : ∀ (j : Nat) (row : List C) (i : Nat) (c : C) (u : Value), rs'[j]? = some row → row[i]? = some c → inner'[j * sz + i]? = some u → CR Z w c u) :
    ∃ v', en = .returned v' ∧ Post base w0 Z β cr lv fz bx nb { res := .own nb, nw := some (.rows e sz rs'), kill := [b] } w v' w' := by
  obtain ⟨v', rfl, hown, hwhere⟩ := hm
  refine ⟨v', rfl, ?_⟩
  obtain ⟨xx, hxx, hB⟩ := hW.box b hlv
  rw [hb] at hxx
  injection hxx with hxx
  subst hxx
  have hBB := hB
  cases hB with
  | rows e sz rs inner hown0 hr0 hc0 ht0 hz0 =>
    have hgr : w.grownBy w' (β b).ownBlock := by
      rcases hwhere with ⟨hg, _⟩ | ⟨_, hg⟩
      · exact ⟨hg.os, hg.tape, hg.output, hg.size, fun k hk _ => hg.block k hk (by simp)⟩
      · exact hg
    have he : Ext Z Z w w' := ext_of_grown hgr hW.zin fun a ha e1 => hz0 hnf a.block e1.symm a ha rfl
    have hvb : ∀ g, v'.ownBlock = some g → (w.heap.size ≤ g) ∨ (β b).ownBlock = some g := fun g hg => by
      rcases hwhere with ⟨_, hv⟩ | ⟨hv, _⟩
      · rw [hv] at hg; injection hg with hg; exact .inl (by omega)
      · rw [hv] at hg; exact .inr hg
    have hb2 : ∀ g, blk v' = some g → v'.ownBlock = some g := fun g hg => by
      rcases hown.2 with ⟨rfl, _⟩ | ⟨g', cap', cur', rfl, _⟩
      · simp [blk] at hg
      · exact hg
    refine Post.renew (row := (β b).ownBlock) (u := v') hW hnb hbx hgr he (fun k hk => ?_) (fun g hg b' hl hnk e1 => ?_) (fun β' cr' fz' hb' hcn hun hfz => ?_) (fun β' cr' hb' hcn hun => by rw [← hun]; exact .own nb hcn)
    · have hbk := blk_ownBlock _ _ hk
      exact ⟨(hBB.blk_base hbk).1, hBB.isCells rfl hbk, fun b' hl hnk e1 => hW.dis b' b k hl hlv (fun e => hnk (by simp [e])) e1 hbk⟩
    · rcases hvb g (hb2 g hg) with h | h
      · obtain ⟨y, hy, hB'⟩ := hW.box b' hl
        have := (hB'.blk_base e1).2
        omega
      · exact hW.dis b' b g hl hlv (fun e => hnk (by simp [e])) e1 (blk_ownBlock _ _ h)
    · refine .rows e sz rs' inner' (by rw [hun]; exact hown) hrl (fun j row i c u h1 h2 h3 => (hc j row i c u h1 h2 h3).ext he) (fun g hg a ha e1 => ?_) (fun hn g hg a ha e1 => ?_)
      · rw [hun] at hg
        rcases hvb g hg with h | h
        · have := hW.zin a ha
          omega
        · exact absurd e1 (hz0 hnf g h a ha)
      · rw [hun] at hg
        rcases hvb g hg with h | h
        · have := hW.zin a ha
          omega
        · exact hz0 hnf g h a ha e1
theorem rows_one {b e sz : Nat} {rs : List (List C)} {inner : List Value} (hown : w.ownsRow base e sz (β b) rs.length inner) (hr : ∀ (j : Nat) (row : List C), rs[j]? = some row → row.length = sz)
    (hc : ∀ (j : Nat) (row : List C) (i : Nat) (c : C) (v : Value), rs[j]? = some row → row[i]? = some c → inner[j * sz + i]? = some v → CR Z w c v) : ∀ u ∈ inner, u.oneCell' = true := fun u hu => by
  obtain ⟨k, hk⟩ := List.mem_iff_getElem?.1 hu
  have hkl : k < rs.length * sz := by rw [← hown.1]; exact (List.getElem?_eq_some_iff.1 hk).1
  have hn0 : 0 < sz := by rcases Nat.eq_zero_or_pos sz with h | h; (rw [h] at hkl; omega); exact h
  have d1 : k / sz < rs.length := by rw [Nat.div_lt_iff_lt_mul hn0]; exact hkl
  have hrow := List.getElem?_eq_getElem d1
  have hl := hr _ _ hrow
  have d2 : k % sz < (rs[k / sz]).length := by rw [hl]; exact Nat.mod_lt _ hn0
  refine (hc _ _ (k % sz) _ u hrow (List.getElem?_eq_getElem d2) ?_).one
  rw [show k / sz * sz + k % sz = k by rw [Nat.mul_comm]; exact Nat.div_add_mod k sz]
  exact hk
theorem mul_lt {j n sz i : Nat} (hj : j < n) (hi : i < sz) : j * sz + i < n * sz := by
  have : j * sz + sz ≤ n * sz := by rw [← Nat.succ_mul]; exact Nat.mul_le_mul_right _ hj
  omega
/-- A call of a function's name. -/
theorem run_enter {fo : Operand} {as : Array Operand} {ats : Array TypeId} {g : FuncId} (ho : o.op = .call { callee := .value fo, args := as, argTypes := ats }) (hfo : AR Z w β cr (.c (.fn g [])) (a.eval fo)) (hent : Enters P g) :
    (execOp a.eval o).run P w = .ok (.enter g (as.map a.eval)) w := by
  have hfn : CR Z w (.fn g []) (a.eval fo) := by generalize hq : a.eval fo = q at hfo; cases hfo with | c x v h => exact h
  generalize hq : a.eval fo = q at hfn
  cases hfn with
  | fn g caps ps vals hpl hpc hpv =>
    have hps : ps = [] := List.eq_nil_of_length_eq_zero hpl
    subst hps
    have h2 := hent (as.map a.eval) w
    simp only [execOp, ho, resolve, hq, Deferred.ofValue, invoke, Sem.run_bind, Sem.run_pure, Result.andThen_ok, Array.empty_append, List.map_nil, Array.append_empty, h2]
theorem AR.own_val {b : Nat} {v : Value} (h : AR Z w β cr (.own b) v) : v = β b := by cases h; rfl

theorem op_ins {fo x y z : Operand} {ats : Array TypeId} {g e sz bytes b b2 i : Nat} {rs : List (List C)} {row2 : List C} (ho : o.op = .call { callee := .value fo, args := #[x, y, z], argTypes := ats }) (hI : InsOk P g e sz bytes)
    (hW : WR base w0 Z β cr lv fz bx w) (hfo : AR Z w β cr (.c (.fn g [])) (a.eval fo)) (hx : AR Z w β cr (.own b) (a.eval x)) (hy : AR Z w β cr (.c (.sc (.int .i64 i))) (a.eval y)) (hz : AR Z w β cr (.own b2) (a.eval z))
    (hlv : lv b) (hnf : ¬ fz b) (hb : bx b = some (.rows e sz rs)) (hlv2 : lv b2) (hb2 : bx b2 = some (.rows e sz [row2])) (hne : b ≠ b2) (hi : i ≤ rs.length) (hby : (rs.length + 1) * bytes ≤ 140737488355328)
    (hnb : ¬ cr nb) (hbx : bx nb = some (.rows e sz (rs.take i ++ [row2] ++ rs.drop i))) :
    OpRun P o a w (Post base w0 Z β cr lv fz bx nb { res := .own nb, nw := some (.rows e sz (rs.take i ++ [row2] ++ rs.drop i)), kill := [b] } w) := by
  obtain ⟨hent, hcalls⟩ := hI
  unfold OpRun
  rw [run_enter ho hfo hent]
  simp only [List.map_toArray, List.map_cons, List.map_nil]
  rw [hx.own_val, hz.own_val, hy.sc_inv.1]
  obtain ⟨xx, hxx, hB⟩ := hW.box b hlv
  rw [hb] at hxx
  injection hxx with hxx
  subst hxx
  obtain ⟨xx, hxx, hB2⟩ := hW.box b2 hlv2
  rw [hb2] at hxx
  injection hxx with hxx
  subst hxx
  cases hB with
  | rows e sz rs inner hown hr hc ht hzz =>
    cases hB2 with
    | rows e sz rs2 xs hown2 hr2 hc2 ht2 hz2 =>
      have h1 := rows_one hown hr hc
      have h2 := rows_one hown2 hr2 hc2
      have hsz : row2.length = sz := hr2 0 row2 rfl
      refine (hcalls base w (β b) (β b2) rs.length i inner xs hown hown2 (fun g h1 h2 => hW.dis b b2 g hlv hlv2 hne (blk_ownBlock _ _ h1) (blk_ownBlock _ _ h2)) hi hby h1 h2 hW.hbase).mono fun en w' hm => ?_
      have hlen : (rs.take i ++ [row2] ++ rs.drop i).length = rs.length + 1 := by simp; omega
      have hxl : xs.length = sz := by have := hown2.1; simpa using this
      have hil : (inner.take (i * sz)).length = i * sz := by
        rw [List.length_take, hown.1]
        have : i * sz ≤ rs.length * sz := Nat.mul_le_mul_right _ hi
        omega
      have hti : (rs.take i).length = i := by simp; omega
      refine post_mut hW hlv hnf hb hnb hbx (by rw [hlen]; exact hm) (fun j row hj => ?_) (fun j row k c u e1 e2 e3 => ?_)
      · rcases List.mem_append.1 (List.mem_of_getElem? hj) with h | h
        · rcases List.mem_append.1 h with h | h
          · obtain ⟨k, hk⟩ := List.mem_iff_getElem?.1 (List.mem_of_mem_take h)
            exact hr k row hk
          · rw [List.mem_singleton] at h
            rw [h]; exact hsz
        · obtain ⟨k, hk⟩ := List.mem_iff_getElem?.1 (List.mem_of_mem_drop h)
          exact hr k row hk
      · have hk : row.length = sz → k < sz := fun h => by rw [← h]; exact (List.getElem?_eq_some_iff.1 e2).1
        rw [List.append_assoc] at e1 e3
        by_cases hj : j < i
        · rw [List.getElem?_append_left (by omega), List.getElem?_take, if_pos hj] at e1
          have hks := hk (hr j row e1)
          have := mul_lt hj hks
          rw [List.getElem?_append_left (by omega), List.getElem?_take, if_pos this] at e3
          exact hc j row k c u e1 e2 e3
        · rw [List.getElem?_append_right (by omega), hti] at e1
          have hge : i * sz ≤ j * sz := Nat.mul_le_mul_right _ (by omega)
          rw [List.getElem?_append_right (by omega), hil, show j * sz + k - i * sz = (j - i) * sz + k by rw [Nat.sub_mul]; omega] at e3
          cases hji : j - i with
          | zero =>
            rw [hji] at e1 e3
            simp at e1
            subst e1
            have hks := hk hsz
            rw [Nat.zero_mul, Nat.zero_add, List.getElem?_append_left (by omega)] at e3
            exact hc2 0 _ k c u rfl e2 (by simpa using e3)
          | succ m =>
            rw [hji] at e1 e3
            simp only [List.singleton_append, List.getElem?_cons_succ, List.getElem?_drop] at e1
            rw [List.getElem?_append_right (by rw [hxl, Nat.succ_mul]; omega), List.getElem?_drop, hxl] at e3
            refine hc (i + m) row k c u e1 e2 ?_
            rw [← e3]
            congr 1
            rw [Nat.add_mul, Nat.succ_mul]
            omega
theorem op_del {fo x y z : Operand} {ats : Array TypeId} {g e sz b i : Nat} {rs : List (List C)} (ho : o.op = .call { callee := .value fo, args := #[x, y, z], argTypes := ats }) (hI : DelOk P g e sz)
    (hW : WR base w0 Z β cr lv fz bx w) (hfo : AR Z w β cr (.c (.fn g [])) (a.eval fo)) (hx : AR Z w β cr (.own b) (a.eval x)) (hy : AR Z w β cr (.c (.sc (.int .i64 i))) (a.eval y)) (hz : AR Z w β cr (.c (.sc (.int .i64 ((i : Int) + 1)))) (a.eval z))
    (hlv : lv b) (hnf : ¬ fz b) (hb : bx b = some (.rows e sz rs)) (hi : i < rs.length)
    (hnb : ¬ cr nb) (hbx : bx nb = some (.rows e sz (rs.take i ++ rs.drop (i + 1)))) :
    OpRun P o a w (Post base w0 Z β cr lv fz bx nb { res := .own nb, nw := some (.rows e sz (rs.take i ++ rs.drop (i + 1))), kill := [b] } w) := by
  obtain ⟨hent, hcalls⟩ := hI
  unfold OpRun
  rw [run_enter ho hfo hent]
  simp only [List.map_toArray, List.map_cons, List.map_nil]
  rw [hx.own_val, hy.sc_inv.1, hz.sc_inv.1]
  obtain ⟨xx, hxx, hB⟩ := hW.box b hlv
  rw [hb] at hxx
  injection hxx with hxx
  subst hxx
  cases hB with
  | rows e sz rs inner hown hr hc ht hzz =>
    have h1 := rows_one hown hr hc
    refine (hcalls base w (β b) rs.length i inner hown hi h1 hW.hbase).mono fun en w' hm => ?_
    have hlen : (rs.take i ++ rs.drop (i + 1)).length = rs.length - 1 := by simp; omega
    have hil : (inner.take (i * sz)).length = i * sz := by
      rw [List.length_take, hown.1]
      have : i * sz ≤ rs.length * sz := Nat.mul_le_mul_right _ (by omega)
      omega
    have hti : (rs.take i).length = i := by simp; omega
    refine post_mut hW hlv hnf hb hnb hbx (by rw [hlen]; exact hm) (fun j row hj => ?_) (fun j row k c u e1 e2 e3 => ?_)
    · rcases List.mem_append.1 (List.mem_of_getElem? hj) with h | h
      · obtain ⟨k, hk⟩ := List.mem_iff_getElem?.1 (List.mem_of_mem_take h)
        exact hr k row hk
      · obtain ⟨k, hk⟩ := List.mem_iff_getElem?.1 (List.mem_of_mem_drop h)
        exact hr k row hk
    · have hk : row.length = sz → k < sz := fun h => by rw [← h]; exact (List.getElem?_eq_some_iff.1 e2).1
      by_cases hj : j < i
      · rw [List.getElem?_append_left (by omega), List.getElem?_take, if_pos hj] at e1
        have hks := hk (hr j row e1)
        have := mul_lt hj hks
        rw [List.getElem?_append_left (by omega), List.getElem?_take, if_pos this] at e3
        exact hc j row k c u e1 e2 e3
      · rw [List.getElem?_append_right (by omega), hti, List.getElem?_drop] at e1
        have hge : i * sz ≤ j * sz := Nat.mul_le_mul_right _ (by omega)
        rw [List.getElem?_append_right (by omega), hil, List.getElem?_drop] at e3
        refine hc _ row k c u e1 e2 ?_
        rw [← e3]
        congr 1
        rw [Nat.add_mul, Nat.sub_mul, Nat.add_mul]
        omega
end


section
variable {P : Program} {tt : TT} {base : Nat} {w0 : World} {Z : Zone} {β : Nat → Value} {cr lv fz : Nat → Prop} {bx : Nat → Option Bx} {nb : Nat} {w : World} {a : Act} {o : Oper}
theorem mapThree {f : Operand → AV} {as : Array Operand} {p q r : AV} (h : as.toList.map f = [p, q, r]) : ∃ x y z, as = #[x, y, z] ∧ f x = p ∧ f y = q ∧ f z = r := by
  obtain ⟨l⟩ := as
  match l, h with
  | [x, y, z], h =>
    simp only [List.map_cons, List.map_nil, List.cons.injEq, and_true] at h
    exact ⟨x, y, z, rfl, h.1, h.2.1, h.2.2⟩
/-- A call that tells a number, a word or a yes: what it was handed is as it was. -/
theorem op_rd {fo : Operand} {as : Array Operand} {ats : Array TypeId} {ρ : Operand → AV} {g : FuncId} {caps : List (List C)} {u : Value} (ho : o.op = .call { callee := .value fo, args := as, argTypes := ats }) (hu : isSc u = true)
    (hW : WR base w0 Z β cr lv fz bx w) (hfo : AR Z w β cr (.c (.fn g caps)) (a.eval fo)) (hA : ∀ x ∈ as, AR Z w β cr (ρ x) (a.eval x)) (hl : ∀ x ∈ as, ∀ b ∈ frzOf (ρ x), lv b)
    (hok : Ok P g ((as.toList.map fun x => thawF bx (ρ x)) ++ caps.map .pt) (.v (.c (.sc u)))) :
    OpRun P o a w (Post base w0 Z β cr lv fz bx nb { res := .c (.sc u) } w) := by
  obtain ⟨hent, hcalls⟩ := hok
  have hfrz : ∀ b ∈ as.toList.flatMap (fun x => frzOf (ρ x)), lv b := fun b hb => by
    obtain ⟨x, hx, hb⟩ := List.mem_flatMap.1 hb
    exact hl x (by simpa using hx) b hb
  generalize hfr : as.toList.flatMap (fun x => frzOf (ρ x)) = frz at *
  have hWf := hW.freeze frz hfrz
  have hfn : CR Z w (.fn g caps) (a.eval fo) := by generalize hq : a.eval fo = q at hfo; cases hfo with | c x v h => exact h
  generalize hq : a.eval fo = q at hfn
  cases hfn with
  | fn g caps ps vals hpl hpc hpv =>
    have hrun : (execOp a.eval o).run P w = .ok (.enter g (as.map a.eval ++ (ps.map fun a => Value.pointer (some a)).toArray)) w := by
      have h2 : (callFunc g (as.map a.eval ++ (ps.map fun a => Value.pointer (some a)).toArray)).run P w = .ok (.enter g (as.map a.eval ++ (ps.map fun a => Value.pointer (some a)).toArray)) w := hent _ w
      simp only [execOp, ho, resolve, hq, Deferred.ofValue, invoke, Sem.run_bind, Sem.run_pure, Result.andThen_ok, Array.empty_append, h2]
    unfold OpRun
    rw [hrun]
    refine (hcalls (ZF Z β bx frz) w _ hWf.zin hWf.zsp (by simp [hpl]) (fun i x v h1 h2 => ?_)).mono ?_
    · by_cases hi : i < as.size
      · rw [List.getElem?_append_left (by simpa using hi), List.getElem?_map] at h1
        rw [Array.getElem?_append_left (by simpa using hi), Array.getElem?_map] at h2
        have hx : as[i]? = some as[i] := Array.getElem?_eq_getElem hi
        rw [Array.getElem?_toList, hx] at h1
        rw [hx] at h2
        simp only [Option.map_some, Option.some.injEq] at h1 h2
        subst h1; subst h2
        have hmem : as[i] ∈ as := Array.getElem_mem hi
        exact thaw_AR hW (hA _ hmem) (hl _ hmem) (fun b hb => by rw [← hfr]; exact List.mem_flatMap.2 ⟨as[i], by simp, hb⟩)
      · rw [List.getElem?_append_right (by simpa using hi), List.getElem?_map] at h1
        rw [Array.getElem?_append_right (by simpa using hi)] at h2
        simp only [List.length_map, Array.length_toList, Array.size_map, List.getElem?_toArray, List.getElem?_map] at h1 h2
        cases hc : caps[i - as.size]? with
        | none => rw [hc] at h1; simp at h1
        | some cs =>
          cases hp : ps[i - as.size]? with
          | none => rw [hp] at h2; simp at h2
          | some ad =>
            rw [hc] at h1
            rw [hp] at h2
            simp only [Option.map_some, Option.some.injEq] at h1 h2
            subst h1; subst h2
            exact .pt cs ad (vals (i - as.size)) (fun k hk => by
              obtain ⟨z1, z2⟩ := hpc _ ad cs hp hc k hk
              exact ⟨.inl z1, z2⟩) (fun k c hk => (hpv _ cs k c hc hk).ext (ZF.ext _ _ _ _ _))
    · rintro e w' ⟨v, Z', rfl, he, hb, hz1, hz2, hz3, hret⟩
      refine ⟨v, rfl, ?_⟩
      simp only [RetR] at hret
      have hv : v = u := hret.sc_inv.1
      subst hv
      exact Post.quiet hW hb (.c _ _ (.sc _ hu))
end
end Go.Vam
