/- An abstract machine over data (part 3): the operations that only read. -/
import Derived.Test.YtncipmjchifcgaaVam2
set_option linter.unusedVariables false
set_option linter.unusedSimpArgs false
namespace Go.Vam
open Go.RowKit

theorem AR.sc_inv {Z : Zone} {w : World} {β : Nat → Value} {cr : Nat → Prop} {v u : Value} (h : AR Z w β cr (.c (.sc v)) u) : u = v ∧ isSc v = true := by
  cases h with | c x v h => cases h with | sc v h => exact ⟨rfl, h⟩
theorem CR.sl_inv {Z : Zone} {w : World} {rows : List (List C)} {u : Value} (h : CR Z w (.sl rows) u) :
    ∃ (A : Option Addr) (cap sz : Nat) (vals : Nat → Nat → Value), u = .slice A rows.length cap ∧ rows.length ≤ cap ∧ rows.length ≤ 9223372036854775807 ∧ (0 < rows.length → A.isSome = true) ∧
      (∀ (j : Nat) (row : List C), rows[j]? = some row → row.length = sz) ∧
      (∀ (ad : Addr), A = some ad → ∀ (j : Nat), j < rows.length → ∀ (i : Nat), i < sz → Z (ad.add (j * sz + i)) ∧ w.cell? (ad.add (j * sz + i)) = some (vals j i)) ∧
      (∀ (j : Nat) (row : List C) (i : Nat) (c : C), rows[j]? = some row → row[i]? = some c → CR Z w c (vals j i)) := by
  cases h with | sl rows A cap sz vals hcap hmax hA hrow hcell hval => exact ⟨A, cap, sz, vals, rfl, hcap, hmax, hA, hrow, hcell, hval⟩
theorem AR.sl_inv {Z : Zone} {w : World} {β : Nat → Value} {cr : Nat → Prop} {rows : List (List C)} {u : Value} (h : AR Z w β cr (.c (.sl rows)) u) : CR Z w (.sl rows) u := by
  cases h with | c x v h => exact h
theorem CR.nil (Z : Zone) (w : World) : CR Z w (.sl []) (.slice none 0 0) :=
  .sl [] none 0 0 (fun _ _ => undef) (Nat.le_refl _) (by simp) (by simp) (by simp) (by simp) (by simp)
theorem add_add (a : Addr) (m n : Nat) : (a.add m).add n = a.add (m + n) := by
  unfold Addr.add
  by_cases hm : m = 0 <;> by_cases hn : n = 0 <;> simp [hm, hn, Nat.add_assoc]
theorem add_lit (g o n : Nat) : (⟨g, o, none⟩ : Addr).add n = ⟨g, o + n, none⟩ := by
  unfold Addr.add; split <;> simp_all

section
variable {P : Program} {tt : TT} {base : Nat} {w0 : World} {Z : Zone} {β : Nat → Value} {cr lv fz : Nat → Prop} {bx : Nat → Option Bx} {nb : Nat} {w : World} {a : Act} {o : Oper}

theorem op_quiet {res : AV} {v : Value} (hW : WR base w0 Z β cr lv fz bx w) (hr : (execOp a.eval o).run P w = .ok (.value v) w) (hv : AR Z w β cr res v) :
    OpRun P o a w (Post base w0 Z β cr lv fz bx nb { res } w) := .value hr (.quiet hW (.refl _ _) hv)

theorem op_move {x : Operand} {res : AV} (ho : o.op = .move x ∨ o.op = .assign x) (hW : WR base w0 Z β cr lv fz bx w) (hx : AR Z w β cr res (a.eval x)) :
    OpRun P o a w (Post base w0 Z β cr lv fz bx nb { res } w) := by
  refine op_quiet (v := a.eval x) hW ?_ hx
  rcases ho with ho | ho <;> simp only [execOp, ho] <;> rfl

theorem op_pick {c x y : Operand} {t : Bool} {r1 r2 : AV} (ho : o.op = .pick c x y) (hW : WR base w0 Z β cr lv fz bx w) (hc : AR Z w β cr (.c (.sc (.bool t))) (a.eval c))
    (hx : AR Z w β cr r1 (a.eval x)) (hy : AR Z w β cr r2 (a.eval y)) : OpRun P o a w (Post base w0 Z β cr lv fz bx nb { res := if t then r1 else r2 } w) := by
  have hcv := hc.sc_inv.1
  refine op_quiet (v := if t then a.eval x else a.eval y) hW ?_ ?_
  · simp only [execOp, ho, hcv, asBool, Sem.run_bind, Sem.run_pure, Result.andThen_ok]
  · cases t <;> simpa

theorem op_bin {op : BinOp} {t u : TypeId} {x y : Operand} {k : IntKind} {p q : Int} {v : Value} (ho : o.op = .binOp op t x y u) (hW : WR base w0 Z β cr lv fz bx w)
    (hx : AR Z w β cr (.c (.sc (.int k p))) (a.eval x)) (hy : AR Z w β cr (.c (.sc (.int k q))) (a.eval y)) (hv : binI op k p q = some v) :
    OpRun P o a w (Post base w0 Z β cr lv fz bx nb { res := .c (.sc v) } w) := by
  have hs : isSc v = true := by cases op <;> simp only [binI, Option.some.injEq, reduceCtorEq] at hv <;> subst hv <;> rfl
  have hg : (eqGuard op t x y (.int k p) (.int k q)).run P w = .ok () w := by cases op <;> simp [eqGuard]
  refine op_quiet (v := v) hW ?_ (.c _ _ (.sc _ hs))
  simp only [execOp, ho, hx.sc_inv.1, hy.sc_inv.1, Sem.run_bind, hg, Result.andThen_ok, run_binI hv, Sem.run_pure]
theorem op_binS {op : BinOp} {t u : TypeId} {x y : Operand} {p q : ByteArray} {v : Value} (ho : o.op = .binOp op t x y u) (hW : WR base w0 Z β cr lv fz bx w)
    (hx : AR Z w β cr (.c (.sc (.string p))) (a.eval x)) (hy : AR Z w β cr (.c (.sc (.string q))) (a.eval y)) (hv : binS op p q = some v) :
    OpRun P o a w (Post base w0 Z β cr lv fz bx nb { res := .c (.sc v) } w) := by
  have hs : isSc v = true := by cases op <;> simp only [binS, Option.some.injEq, reduceCtorEq] at hv <;> subst hv <;> rfl
  have hg : (eqGuard op t x y (.string p) (.string q)).run P w = .ok () w := by cases op <;> simp [eqGuard]
  refine op_quiet (v := v) hW ?_ (.c _ _ (.sc _ hs))
  simp only [execOp, ho, hx.sc_inv.1, hy.sc_inv.1, Sem.run_bind, hg, Result.andThen_ok, run_binS hv, Sem.run_pure]
theorem op_binB {t u : TypeId} {x y : Operand} {p q neg : Bool} (ho : o.op = .binOp (if neg then .neq else .eql) t x y u) (hu : P.underlying t = some .bool) (hW : WR base w0 Z β cr lv fz bx w)
    (hx : AR Z w β cr (.c (.sc (.bool p))) (a.eval x)) (hy : AR Z w β cr (.c (.sc (.bool q))) (a.eval y)) :
    OpRun P o a w (Post base w0 Z β cr lv fz bx nb { res := .c (.sc (.bool (if neg then !(p == q) else p == q))) } w) := by
  refine op_quiet (v := .bool (if neg then !(p == q) else p == q)) hW ?_ (.c _ _ (.sc _ rfl))
  cases neg
  · have hg : (eqGuard .eql t x y (.bool p) (.bool q)).run P w = .ok () w := by simp [eqGuard]
    simp only [execOp, ho, hx.sc_inv.1, hy.sc_inv.1, Bool.false_eq_true, if_false, Sem.run_bind, hg, Result.andThen_ok, run_eql_bool w t p q hu, Sem.run_pure]
  · have hg : (eqGuard .neq t x y (.bool p) (.bool q)).run P w = .ok () w := by simp [eqGuard]
    simp only [execOp, ho, hx.sc_inv.1, hy.sc_inv.1, if_true, Sem.run_bind, hg, Result.andThen_ok, run_neq_bool w t p q hu, Sem.run_pure]
theorem run_equalIn_slice_nil (d : Nat) {t : TypeId} {e : Nat} (hu : P.underlying t = some (.slice e)) (A : Option Addr) (n c : Nat) :
    (Op.equalIn (d + 1) t (.slice A n c) (.slice none 0 0)).run P w = .ok A.isNone w := by
  have hU : (underlying t).run P w = .ok (.slice e) w := by simp [underlying, hu]
  cases A <;> simp only [Op.equalIn, Sem.run_bind, hU, Result.andThen_ok] <;> rfl
/-- A list against nil: true at empty lists alone. -/
theorem op_isNil {t u : TypeId} {x y : Operand} {rows : List (List C)} {e : Nat} {R : Value → World → Prop} (ho : o.op = .binOp .eql t x y u) (hu : P.underlying t = some (.slice e))
    (hx : AR Z w β cr (.c (.sl rows)) (a.eval x)) (hy : AR Z w β cr .nil (a.eval y)) (hR : ∀ b : Bool, (b = true → rows = []) → R (.bool b) w) :
    OpRun P o a w R := by
  obtain ⟨A, cap, sz, vals, hv, _, _, hA, _⟩ := hx.sl_inv.sl_inv
  have hyv : a.eval y = .slice none 0 0 := by
    generalize hq : a.eval y = q at hy
    cases hy
    rfl
  refine .value (v := .bool A.isNone) (w' := w) ?_ (hR _ fun h => ?_)
  · have hg : (eqGuard .eql t x y (.slice A rows.length cap) (.slice none 0 0)).run P w = .ok () w := by simp [eqGuard]
    have he : (binOp .eql t (.slice A rows.length cap) (.slice none 0 0)).run P w = .ok (.bool A.isNone) w := by
      show ((Op.equalIn (9999 + 1) t (.slice A rows.length cap) (.slice none 0 0)) >>= fun b => pure (Value.bool b)).run P w = _
      rw [Sem.run_bind, run_equalIn_slice_nil 9999 hu]
      rfl
    simp only [execOp, ho, hv, hyv, Sem.run_bind, hg, Result.andThen_ok, he, Sem.run_pure]
  · cases A with
    | none =>
      rcases Nat.eq_zero_or_pos rows.length with h0 | h0
      · exact List.length_eq_zero_iff.1 h0
      · have := hA h0; simp at this
    | some ad => simp at h

theorem op_not {t : TypeId} {x : Operand} {p : Bool} (ho : o.op = .unOp .not t x) (hW : WR base w0 Z β cr lv fz bx w) (hx : AR Z w β cr (.c (.sc (.bool p))) (a.eval x)) :
    OpRun P o a w (Post base w0 Z β cr lv fz bx nb { res := .c (.sc (.bool (!p))) } w) := by
  refine op_quiet (v := .bool (!p)) hW ?_ (.c _ _ (.sc _ rfl))
  simp [execOp, ho, hx.sc_inv.1, Op.unary]
theorem op_neg {t : TypeId} {x : Operand} {k : IntKind} {p : Int} (ho : o.op = .unOp .neg t x) (hW : WR base w0 Z β cr lv fz bx w) (hx : AR Z w β cr (.c (.sc (.int k p))) (a.eval x)) :
    OpRun P o a w (Post base w0 Z β cr lv fz bx nb { res := .c (.sc (.int k (k.wrap (-p)))) } w) := by
  refine op_quiet (v := .int k (k.wrap (-p))) hW ?_ (.c _ _ (.sc _ rfl))
  simp [execOp, ho, hx.sc_inv.1, Op.unary, Op.intArith]
theorem op_extract {x : Operand} {xs : List AV} {i : Nat} {r : AV} (ho : o.op = .extract x i) (hW : WR base w0 Z β cr lv fz bx w) (hx : AR Z w β cr (.tup xs) (a.eval x)) (hi : xs[i]? = some r) :
    OpRun P o a w (Post base w0 Z β cr lv fz bx nb { res := r } w) := by
  generalize hq : a.eval x = q at hx
  cases hx with
  | tup xs vs hl h =>
    have hlt := (List.getElem?_eq_some_iff.1 hi).1
    have hv : vs[i]? = some (vs[i]'(by omega)) := Array.getElem?_eq_getElem (by omega)
    refine op_quiet (v := vs[i]'(by omega)) hW ?_ (h i r _ hi hv)
    simp [execOp, ho, hq, Instr.extract, hv]
theorem op_field {t : TypeId} {x : Operand} {f : Nat} {cs : List C} {i : TyI} {off ty n : Nat} {ag : Bool} (ho : o.op = .field t x f) (hty : tyOk P t i = true) (hf : i.fs[f]? = some (off, ty, n, ag))
    (hW : WR base w0 Z β cr lv fz bx w) (hx : AR Z w β cr (.agg cs) (a.eval x)) (hlen : off + n ≤ cs.length) (h1 : ag = false → n = 1) :
    OpRun P o a w (Post base w0 Z β cr lv fz bx nb { res := if ag then .agg ((cs.drop off).take n) else .c (cs.getD off (.sc (.bool false))) } w) := by
  obtain ⟨_, _, _, hF⟩ := tyOk_spec hty
  obtain ⟨fields, fd, hu, hfd, hoff, hfty, hn, hsz, hag⟩ := hF f off ty n ag hf
  generalize hq : a.eval x = q at hx
  cases hx with
  | agg cs vs hl h =>
    have hU : (underlying t).run P w = .ok (.struct fields) w := by simp [underlying, hu]
    cases ag with
    | true =>
      refine op_quiet (v := .agg (vs.extract off (off + n))) hW ?_ ?_
      · simp only [execOp, ho, hq, Instr.field, Sem.run_bind, hU, Result.andThen_ok, hfd, asAgg, Sem.run_pure, part, hfty, hoff, hag, hsz, if_true]
      · refine .agg _ _ (by simp; omega) fun k c v h1 h2 => ?_
        simp only [Array.getElem?_extract] at h2
        rw [List.getElem?_take] at h1
        split at h1
        · rw [List.getElem?_drop] at h1
          split at h2
          · exact h _ _ _ h1 h2
          · cases h2
        · cases h1
    | false =>
      have hn1 := h1 rfl
      have hlt : off < cs.length := by omega
      have hv : vs[off]? = some (vs[off]'(by omega)) := Array.getElem?_eq_getElem (by omega)
      refine op_quiet (v := vs[off]'(by omega)) hW ?_ ?_
      · simp only [execOp, ho, hq, Instr.field, Sem.run_bind, hU, Result.andThen_ok, hfd, asAgg, Sem.run_pure, part, hfty, hoff, hag, Bool.false_eq_true, if_false, hv]
      · simp only [Bool.false_eq_true, if_false]
        rw [List.getD_eq_getElem?_getD, List.getElem?_eq_getElem hlt]
        exact .c _ _ (h off _ _ (List.getElem?_eq_getElem hlt) hv)

theorem run_fieldAt {t : TypeId} {i : TyI} {f off ty n : Nat} {ag : Bool} (hty : tyOk P t i = true) (hf : i.fs[f]? = some (off, ty, n, ag)) (ad : Addr) :
    (Instr.fieldAt t (.pointer (some ad)) f).run P w = .ok (.pointer (some (ad.add off))) w := by
  obtain ⟨_, _, _, hF⟩ := tyOk_spec hty
  obtain ⟨fields, fd, hu, hfd, hoff, hfty, hn, hsz, hag⟩ := hF f off ty n ag hf
  have hU : (underlying t).run P w = .ok (.struct fields) w := by simp [underlying, hu]
  have h0 : n ≠ 0 := by omega
  simp [Instr.fieldAt, hU, hfd, Instr.sureAddr, fieldPlace, hfty, hsz, h0, hoff]
theorem op_fieldPt {t : TypeId} {x : Operand} {i : TyI} {f off ty n : Nat} {ag : Bool} {cs : List C} (ho : o.op = .fieldAddr t x f) (hty : tyOk P t i = true) (hf : i.fs[f]? = some (off, ty, n, ag))
    (hW : WR base w0 Z β cr lv fz bx w) (hx : AR Z w β cr (.pt cs) (a.eval x)) : OpRun P o a w (Post base w0 Z β cr lv fz bx nb { res := .pt (cs.drop off) } w) := by
  generalize hq : a.eval x = q at hx
  cases hx with
  | pt cs ad vals hc hv =>
    refine op_quiet (v := .pointer (some (ad.add off))) hW ?_ ?_
    · simp only [execOp, ho, hq, Sem.run_bind, run_fieldAt hty hf, Result.andThen_ok, Sem.run_pure]
    · refine .pt _ _ (fun k => vals (off + k)) (fun k hk => ?_) (fun k c hk => ?_)
      · rw [add_add]
        rw [List.length_drop] at hk
        exact hc (off + k) (by omega)
      · rw [List.getElem?_drop] at hk
        exact hv _ _ hk
theorem op_fieldPtr {t : TypeId} {x : Operand} {i : TyI} {f off ty n b o0 : Nat} {ag : Bool} (ho : o.op = .fieldAddr t x f) (hty : tyOk P t i = true) (hf : i.fs[f]? = some (off, ty, n, ag))
    (hW : WR base w0 Z β cr lv fz bx w) (hx : AR Z w β cr (.ptr b o0) (a.eval x)) : OpRun P o a w (Post base w0 Z β cr lv fz bx nb { res := .ptr b (o0 + off) } w) := by
  generalize hq : a.eval x = q at hx
  cases hx with
  | ptr b o0 g hb h =>
    refine op_quiet (v := .pointer (some ⟨g, o0 + off, none⟩)) hW ?_ (.ptr b _ g hb h)
    simp only [execOp, ho, hq, Sem.run_bind, run_fieldAt hty hf, Result.andThen_ok, Sem.run_pure, add_lit]
theorem op_fieldOptr {t : TypeId} {x : Operand} {i : TyI} {f off ty n b o0 : Nat} {ag : Bool} (ho : o.op = .fieldAddr t x f) (hty : tyOk P t i = true) (hf : i.fs[f]? = some (off, ty, n, ag))
    (hW : WR base w0 Z β cr lv fz bx w) (hx : AR Z w β cr (.optr b o0) (a.eval x)) : OpRun P o a w (Post base w0 Z β cr lv fz bx nb { res := .optr b (o0 + off) } w) := by
  generalize hq : a.eval x = q at hx
  cases hx with
  | optr b o0 g n' cap hb h =>
    refine op_quiet (v := .pointer (some ⟨g, o0 + off, none⟩)) hW ?_ (.optr b _ g n' cap hb h)
    simp only [execOp, ho, hq, Sem.run_bind, run_fieldAt hty hf, Result.andThen_ok, Sem.run_pure, add_lit]

theorem op_indexA {t : TypeId} {x y : Operand} {cs : List C} {i : TyI} {e sz n : Nat} {ag : Bool} {k : IntKind} {j : Int} (ho : o.op = .index t x y) (hty : tyOk P t i = true) (ha : i.ar = some (e, sz, n, ag))
    (hW : WR base w0 Z β cr lv fz bx w) (hx : AR Z w β cr (.agg cs) (a.eval x)) (hy : AR Z w β cr (.c (.sc (.int k j))) (a.eval y)) (h0 : 0 ≤ j) (hj : j < n) (hlen : j.toNat * sz + sz ≤ cs.length) (h1 : ag = false → sz = 1) :
    OpRun P o a w (Post base w0 Z β cr lv fz bx nb { res := if ag then .agg ((cs.drop (j.toNat * sz)).take sz) else .c (cs.getD (j.toNat * sz) (.sc (.bool false))) } w) := by
  obtain ⟨hu, hsz, hag, hs0, _⟩ := tyOk_ar hty ha
  have hyv : a.eval y = .int k j := hy.sc_inv.1
  have hjj : 0 ≤ j ∧ j < (n : Int) := ⟨h0, hj⟩
  generalize hq : a.eval x = q at hx
  cases hx with
  | agg cs vs hl h =>
    have hU : (underlying t).run P w = .ok (.array n e) w := by simp [underlying, hu]
    cases ag with
    | true =>
      refine op_quiet (v := .agg (vs.extract (j.toNat * sz) (j.toNat * sz + sz))) hW ?_ ?_
      · simp only [execOp, ho, hq, hyv, asIntOf, Instr.index, Sem.run_bind, hU, Result.andThen_ok, Sem.run_pure, part, hag, hsz, if_true, hjj, and_self]
      · refine .agg _ _ (by simp; omega) fun k c v h1 h2 => ?_
        simp only [Array.getElem?_extract] at h2
        rw [List.getElem?_take] at h1
        split at h1
        · rw [List.getElem?_drop] at h1
          split at h2
          · exact h _ _ _ h1 h2
          · cases h2
        · cases h1
    | false =>
      have hn1 := h1 rfl
      have hlt : j.toNat * sz < cs.length := by omega
      have hv : vs[j.toNat * sz]? = some (vs[j.toNat * sz]'(by omega)) := Array.getElem?_eq_getElem (by omega)
      refine op_quiet (v := vs[j.toNat * sz]'(by omega)) hW ?_ ?_
      · simp only [execOp, ho, hq, hyv, asIntOf, Instr.index, Sem.run_bind, hU, Result.andThen_ok, Sem.run_pure, part, hag, hsz, Bool.false_eq_true, if_false, hjj, and_self, if_true, hv]
      · simp only [Bool.false_eq_true, if_false]
        rw [List.getD_eq_getElem?_getD, List.getElem?_eq_getElem hlt]
        exact .c _ _ (h (j.toNat * sz) _ _ (List.getElem?_eq_getElem hlt) hv)
theorem op_indexAddrA {t : TypeId} {x y : Operand} {i : TyI} {e sz n b o0 : Nat} {ag : Bool} {k : IntKind} {j : Int} (ho : o.op = .indexAddr t x y) (hty : tyOk P t i = true) (ha : i.ar = some (e, sz, n, ag))
    (hW : WR base w0 Z β cr lv fz bx w) (hx : AR Z w β cr (.ptr b o0) (a.eval x)) (hy : AR Z w β cr (.c (.sc (.int k j))) (a.eval y)) (h0 : 0 ≤ j) (hj : j < n) :
    OpRun P o a w (Post base w0 Z β cr lv fz bx nb { res := .ptr b (o0 + j.toNat * sz) } w) := by
  obtain ⟨hu, hsz, hag, hs0, hn2⟩ := tyOk_ar hty ha
  have hyv : a.eval y = .int k j := hy.sc_inv.1
  have hjj : 0 ≤ j ∧ j < (n : Int) := ⟨h0, hj⟩
  generalize hq : a.eval x = q at hx
  cases hx with
  | ptr b o0 g hb h =>
    have hU : (underlying t).run P w = .ok (.array n e) w := by simp [underlying, hu]
    refine op_quiet (v := .pointer (some ⟨g, o0 + j.toNat * sz, none⟩)) hW ?_ (.ptr b _ g hb h)
    have hnl : ¬ (n ≤ 1) := by omega
    simp only [execOp, ho, hq, hyv, asIntOf, Instr.indexAt, Instr.sureAddr, Sem.run_bind, hU, Result.andThen_ok, Sem.run_pure, hjj, and_self, if_true, hsz, add_lit, hnl, decide_false, Bool.false_and]

theorem op_indexSl {t : TypeId} {x y : Operand} {it ie : TyI} {e : Nat} {rows : List (List C)} {row : List C} {k : IntKind} {j : Int} (ho : o.op = .indexAddr t x y) (hty : tyOk P t it = true) (hsl : it.sl = some e) (hte : tyOk P e ie = true)
    (hW : WR base w0 Z β cr lv fz bx w) (hx : AR Z w β cr (.c (.sl rows)) (a.eval x)) (hy : AR Z w β cr (.c (.sc (.int k j))) (a.eval y)) (h0 : 0 ≤ j) (hrow : rows[j.toNat]? = some row) (hn : row.length = ie.n) :
    OpRun P o a w (Post base w0 Z β cr lv fz bx nb { res := .pt row } w) := by
  obtain ⟨A, cap, sz, vals, hv, _, _, hA, hrl, hcell, hval⟩ := hx.sl_inv.sl_inv
  have hlt := (List.getElem?_eq_some_iff.1 hrow).1
  have hsz : ie.n = sz := by rw [← hn]; exact hrl _ _ hrow
  have hs := hA (by omega)
  cases A with
  | none => simp at hs
  | some ad =>
    have hu := (tyOk_spec hty).2.2.1 e hsl
    obtain ⟨inf, hinf, hinfn, _⟩ := (tyOk_spec hte).2.1
    have hU : (underlying t).run P w = .ok (.slice e) w := by simp [underlying, hu]
    have hS : (sizeOf e).run P w = .ok ie.n w := by simp [sizeOf, typeInfo, hinf, hinfn]
    refine op_quiet (v := .pointer (some (ad.add (j.toNat * ie.n)))) hW ?_ ?_
    · have hj : 0 ≤ j ∧ j < (rows.length : Int) := ⟨h0, by omega⟩
      simp [execOp, ho, hv, hy.sc_inv.1, Instr.indexAt, asIntOf, hU, hS, hj]
    · refine .pt _ _ (vals j.toNat) (fun i hi => ?_) (fun i c hi => hval _ _ _ _ hrow hi)
      rw [add_add, hsz]
      exact hcell ad rfl _ hlt i (by omega)
theorem op_indexOwn {t : TypeId} {x y : Operand} {it ie : TyI} {e e' b : Nat} {rs : List (List C)} {k : IntKind} {j : Int} (ho : o.op = .indexAddr t x y) (hty : tyOk P t it = true) (hsl : it.sl = some e) (hte : tyOk P e ie = true)
    (hW : WR base w0 Z β cr lv fz bx w) (hx : AR Z w β cr (.own b) (a.eval x)) (hlv : lv b) (hb : bx b = some (.rows e' ie.n rs)) (hy : AR Z w β cr (.c (.sc (.int k j))) (a.eval y)) (h0 : 0 ≤ j) (hlt : j < rs.length) :
    OpRun P o a w (Post base w0 Z β cr lv fz bx nb { res := .optr b (j.toNat * ie.n) } w) := by
  have hx' : a.eval x = β b ∧ cr b := by
    generalize hq : a.eval x = q at hx
    cases hx with | own b hb => exact ⟨rfl, hb⟩
  obtain ⟨xx, hxx, hB⟩ := hW.box b hlv
  rw [hb] at hxx
  injection hxx with hxx
  subst hxx
  cases hB with
  | rows e' sz rs inner hown hr hc ht hz =>
    rcases hown.2 with ⟨hv, hn⟩ | ⟨g, cap, cur, hv, _⟩
    · omega
    · have hu := (tyOk_spec hty).2.2.1 e hsl
      obtain ⟨inf, hinf, hinfn, _⟩ := (tyOk_spec hte).2.1
      have hU : (underlying t).run P w = .ok (.slice e) w := by simp [underlying, hu]
      have hS : (sizeOf e).run P w = .ok ie.n w := by simp [sizeOf, typeInfo, hinf, hinfn]
      refine op_quiet (v := .pointer (some ⟨g, j.toNat * ie.n, none⟩)) hW ?_ (.optr b _ g _ cap hx'.2 hv)
      have hj : 0 ≤ j ∧ j < (rs.length : Int) := ⟨h0, by omega⟩
      simp [execOp, ho, hx'.1, hv, hy.sc_inv.1, Instr.indexAt, asIntOf, hU, hS, hj, add_lit]

theorem run_loadAt {t : TypeId} {i : TyI} (hty : tyOk P t i = true) (ad : Addr) (vals : Nat → Value) (hn : i.ag = false → i.n = 1) (hc : ∀ k, k < i.n → w.cell? (ad.add k) = some (vals k)) :
    (Instr.loadAt t (.pointer (some ad))).run P w = .ok (if i.ag then .agg ((List.range i.n).map vals).toArray else vals 0) w := by
  obtain ⟨hag, ⟨inf, hinf, hinfn, _⟩, _⟩ := tyOk_spec hty
  have hS : (sizeOf t).run P w = .ok i.n w := by simp [sizeOf, typeInfo, hinf, hinfn]
  unfold Instr.loadAt loadVar
  simp only [Instr.sureAddr, Sem.run_bind, Sem.run_pure, Result.andThen_ok, hag]
  cases ha : i.ag with
  | true =>
    simp only [if_true, Sem.run_bind, hS, Result.andThen_ok, run_loadCells w ad i.n vals hc, Sem.run_pure]
  | false =>
    have h0 := hc 0 (by have := hn ha; omega)
    have : ad.add 0 = ad := by simp [Addr.add]
    rw [this] at h0
    simp [h0]
theorem getD_of {α : Type} {l : List α} {k : Nat} {x d : α} (h : l[k]? = some x) : l.getD k d = x := by
  rw [List.getD_eq_getElem?_getD, h]; rfl
theorem op_loadPt {t : TypeId} {x : Operand} {i : TyI} {cs : List C} (ho : o.op = .load t x) (hty : tyOk P t i = true) (hn : i.ag = false → i.n = 1) (hlen : i.n ≤ cs.length)
    (hW : WR base w0 Z β cr lv fz bx w) (hx : AR Z w β cr (.pt cs) (a.eval x)) :
    OpRun P o a w (Post base w0 Z β cr lv fz bx nb { res := if i.ag then .agg (cs.take i.n) else .c (cs.getD 0 (.sc (.bool false))) } w) := by
  generalize hq : a.eval x = q at hx
  cases hx with
  | pt cs ad vals hc hv =>
    have hr := run_loadAt (P := P) (w := w) hty ad vals hn (fun k hk => (hc k (by omega)).2)
    refine op_quiet (v := if i.ag then .agg ((List.range i.n).map vals).toArray else vals 0) hW ?_ ?_
    · simp only [execOp, ho, hq, Sem.run_bind, hr, Result.andThen_ok, Sem.run_pure]
    · cases ha : i.ag with
      | true =>
        simp only [if_true]
        refine .agg _ _ (by simp; omega) fun k c v h1 h2 => ?_
        rw [List.getElem?_take] at h1
        split at h1
        · rename_i hk
          have : v = vals k := by simpa [hk] using h2.symm
          subst this
          exact hv _ _ h1
        · cases h1
      | false =>
        have h1 : 0 < cs.length := by have := hn ha; omega
        simp only [Bool.false_eq_true, if_false]
        rw [getD_of (List.getElem?_eq_getElem h1)]
        exact .c _ _ (hv 0 _ (List.getElem?_eq_getElem h1))
theorem toC_sound {x : AV} {v : Value} (h : AR Z w β cr x v) (hc : isC x = true) : CR Z w (toC x) v := by
  cases h <;> simp [isC] at hc
  case c h => exact h
  case nil => exact CR.nil _ _
theorem op_loadPtr {t : TypeId} {x : Operand} {i : TyI} {b off : Nat} {cs : List AV} (ho : o.op = .load t x) (hty : tyOk P t i = true) (hn : i.ag = false → i.n = 1) (hlen : off + i.n ≤ cs.length) (hn0 : 0 < i.n)
    (hC : i.ag = true → ((cs.drop off).take i.n).all isC = true)
    (hW : WR base w0 Z β cr lv fz bx w) (hx : AR Z w β cr (.ptr b off) (a.eval x)) (hlv : lv b) (hb : bx b = some (.cells cs)) :
    OpRun P o a w (Post base w0 Z β cr lv fz bx nb { res := if i.ag then .agg (((cs.drop off).take i.n).map toC) else nth cs off } w) := by
  generalize hq : a.eval x = q at hx
  cases hx with
  | ptr b off g hcb h =>
    obtain ⟨xx, hxx, hB⟩ := hW.box b hlv
    rw [hb] at hxx
    injection hxx with hxx
    subst hxx
    cases hB with
    | cells cs g' arr ty hv hg hh hl hc hz =>
      have hgg : g' = g := by rw [hv] at h; simpa using h
      subst hgg
      have hcell : ∀ k, k < i.n → w.cell? ((⟨g', off, none⟩ : Addr).add k) = some (arr.getD (off + k) undef) := fun k hk => by
        rw [add_lit, cell_of_row w g' (off + k) arr ty (0, 0) hh]
        have : off + k < arr.size := by omega
        simp [this]
      have hr := run_loadAt (P := P) (w := w) hty ⟨g', off, none⟩ (fun k => arr.getD (off + k) undef) hn hcell
      refine op_quiet (v := if i.ag then .agg ((List.range i.n).map (fun k => arr.getD (off + k) undef)).toArray else arr.getD (off + 0) undef) hW ?_ ?_
      · simp only [execOp, ho, hq, Sem.run_bind, hr, Result.andThen_ok, Sem.run_pure]
      · have hat : ∀ (k : Nat) (x : AV), k < i.n → cs[off + k]? = some x → AR Z w β cr x (arr.getD (off + k) undef) := fun k x hk hx => by
          have hlt : off + k < arr.size := by omega
          refine hc (off + k) x _ hx ?_
          simp [hlt]
        cases ha : i.ag with
        | true =>
          simp only [if_true]
          refine .agg _ _ (by simp; omega) fun k c v h1 h2 => ?_
          rw [List.getElem?_map, List.getElem?_take] at h1
          split at h1
          · rename_i hk
            rw [List.getElem?_drop] at h1
            cases hx : cs[off + k]? with
            | none => rw [hx] at h1; simp at h1
            | some y =>
              rw [hx] at h1
              simp only [Option.map_some, Option.some.injEq] at h1
              subst h1
              have hvk : v = arr.getD (off + k) undef := by simpa [hk] using h2.symm
              subst hvk
              have hall := hC ha
              rw [List.all_eq_true] at hall
              exact toC_sound (hat k y hk hx) (hall y (List.mem_of_getElem? (i := k) (by rw [List.getElem?_take, if_pos hk, List.getElem?_drop]; exact hx)))
          · simp at h1
        | false =>
          have hlt : off < cs.length := by omega
          simp only [Bool.false_eq_true, if_false, nth_eq]
          rw [List.getElem?_eq_getElem hlt]
          exact hat 0 _ hn0 (List.getElem?_eq_getElem hlt)
theorem op_loadOptr {t : TypeId} {x : Operand} {i : TyI} {b off e sz j : Nat} {rs : List (List C)} {row : List C} (ho : o.op = .load t x) (hty : tyOk P t i = true) (hn : i.ag = false → i.n = 1) (hn0 : 0 < i.n)
    (hW : WR base w0 Z β cr lv fz bx w) (hx : AR Z w β cr (.optr b off) (a.eval x)) (hlv : lv b) (hb : bx b = some (.rows e sz rs)) (hrow : rs[j]? = some row) (hj : j * sz ≤ off) (hlen : off - j * sz + i.n ≤ row.length) :
    OpRun P o a w (Post base w0 Z β cr lv fz bx nb { res := if i.ag then .agg ((row.drop (off - j * sz)).take i.n) else .c (row.getD (off - j * sz) (.sc (.bool false))) } w) := by
  generalize hq : a.eval x = q at hx
  cases hx with
  | optr b off g n cap hcb h =>
    obtain ⟨xx, hxx, hB⟩ := hW.box b hlv
    rw [hb] at hxx
    injection hxx with hxx
    subst hxx
    cases hB with
    | rows e sz rs inner hown hr hc ht hz =>
      have hsz := hr j row hrow
      have hjl := (List.getElem?_eq_some_iff.1 hrow).1
      have hin := hown.1
      have hmul : j * sz + sz ≤ rs.length * sz := by rw [← Nat.succ_mul]; exact Nat.mul_le_mul_right _ hjl
      have hcell : ∀ k, k < i.n → w.cell? ((⟨g, off, none⟩ : Addr).add k) = some (inner.getD (off + k) undef) := fun k hk => by
        have hlt : off + k < inner.length := by omega
        have := hown.cells (g := g) (by rw [h]; rfl) (off + k) _ (List.getElem?_eq_getElem hlt)
        rw [add_lit, Nat.zero_add] at this
        rw [add_lit, this, getD_of (List.getElem?_eq_getElem hlt)]
      have hr' := run_loadAt (P := P) (w := w) hty ⟨g, off, none⟩ (fun k => inner.getD (off + k) undef) hn hcell
      refine op_quiet (v := if i.ag then .agg ((List.range i.n).map (fun k => inner.getD (off + k) undef)).toArray else inner.getD (off + 0) undef) hW ?_ ?_
      · simp only [execOp, ho, hq, Sem.run_bind, hr', Result.andThen_ok, Sem.run_pure]
      · have hat : ∀ (k : Nat) (c : C), k < i.n → row[off - j * sz + k]? = some c → CR Z w c (inner.getD (off + k) undef) := fun k c hk hc' => by
          have hlt : off + k < inner.length := by omega
          refine hc j row (off - j * sz + k) c _ hrow hc' ?_
          rw [show j * sz + (off - j * sz + k) = off + k by omega, getD_of (List.getElem?_eq_getElem hlt)]
          exact List.getElem?_eq_getElem hlt
        cases ha : i.ag with
        | true =>
          simp only [if_true]
          refine .agg _ _ (by simp; omega) fun k c v h1 h2 => ?_
          rw [List.getElem?_take] at h1
          split at h1
          · rename_i hk
            rw [List.getElem?_drop] at h1
            have hvk : v = inner.getD (off + k) undef := by simpa [hk] using h2.symm
            subst hvk
            exact hat k c hk h1
          · cases h1
        | false =>
          have hlt : off - j * sz < row.length := by omega
          simp only [Bool.false_eq_true, if_false]
          rw [getD_of (List.getElem?_eq_getElem hlt)]
          exact .c _ _ (hat 0 _ hn0 (List.getElem?_eq_getElem hlt))

def BoundR (Z : Zone) (w : World) (β : Nat → Value) (cr : Nat → Prop) (a : Act) (d n : Nat) : Option Operand → Prop
  | none => n = d
  | some y => ∃ (k : IntKind), AR Z w β cr (.c (.sc (.int k n))) (a.eval y)
theorem op_sliceSl {t : TypeId} {x : Operand} {it ie : TyI} {e lo hi : Nat} {rows : List (List C)} {olo ohi omx : Option Operand} (ho : o.op = .slice t x olo ohi omx) (hty : tyOk P t it = true) (hsl : it.sl = some e) (hte : tyOk P e ie = true)
    (hW : WR base w0 Z β cr lv fz bx w) (hx : AR Z w β cr (.c (.sl rows)) (a.eval x)) (hrow : ∀ row ∈ rows, row.length = ie.n)
    (hlo : BoundR Z w β cr a 0 lo olo) (hhi : BoundR Z w β cr a rows.length hi ohi)
    (hmx : ∀ y, omx = some y → ohi.isSome = true ∧ ∃ (k : IntKind) (mx : Nat), AR Z w β cr (.c (.sc (.int k mx))) (a.eval y) ∧ hi ≤ mx ∧ mx ≤ rows.length)
    (h1 : lo ≤ hi) (h2 : hi ≤ rows.length) :
    OpRun P o a w (Post base w0 Z β cr lv fz bx nb { res := .c (.sl ((rows.take hi).drop lo)) } w) := by
  obtain ⟨A, cap, sz, vals, hv, hcap, hmax, hA, hrl, hcell, hval⟩ := hx.sl_inv.sl_inv
  have hu := (tyOk_spec hty).2.2.1 e hsl
  obtain ⟨inf, hinf, hinfn, _⟩ := (tyOk_spec hte).2.1
  have hU : (underlying t).run P w = .ok (.slice e) w := by simp [underlying, hu]
  have hS : (sizeOf e).run P w = .ok ie.n w := by simp [sizeOf, typeInfo, hinf, hinfn]
  have hlen : ((rows.take hi).drop lo).length = hi - lo := by simp; omega
  have hI : ∀ (k : IntKind) (i y : Nat) (code : Go.BoundsCode), i ≤ y → (Instr.sliceBound (.int k (i : Int)) y code).run P w = .ok i w := fun k i y code h => by
    have : 0 ≤ (i : Int) ∧ (i : Int) ≤ (y : Int) := ⟨by omega, by omega⟩
    simp [Instr.sliceBound, asIntOf, this]
  have key : ∃ m, hi ≤ m ∧ m ≤ cap ∧ (Instr.sliceBounds true rows.length cap (olo.map a.eval) (ohi.map a.eval) (omx.map a.eval)).run P w = .ok (lo, hi, m) w := by
    cases olo <;> cases ohi <;> cases omx
    · simp only [BoundR] at hlo hhi; subst hlo; subst hhi
      exact ⟨cap, by omega, Nat.le_refl _, by simp [Instr.sliceBounds]⟩
    · have := (hmx _ rfl).1; simp at this
    · obtain ⟨k, hk⟩ := hhi
      simp only [BoundR] at hlo; subst hlo
      exact ⟨cap, by omega, Nat.le_refl _, by simp only [Instr.sliceBounds, Option.map_none, Option.map_some, hk.sc_inv.1, Sem.run_bind, Sem.run_pure, Result.andThen_ok, hI k hi cap _ (by omega)]⟩
    · obtain ⟨k, hk⟩ := hhi
      obtain ⟨_, k', mx, hm, hm1, hm2⟩ := hmx _ rfl
      simp only [BoundR] at hlo; subst hlo
      exact ⟨mx, hm1, by omega, by simp only [Instr.sliceBounds, Option.map_none, Option.map_some, hk.sc_inv.1, hm.sc_inv.1, Sem.run_bind, Sem.run_pure, Result.andThen_ok, hI k hi mx _ hm1, hI k' mx cap _ (by omega)]⟩
    · obtain ⟨k, hk⟩ := hlo
      simp only [BoundR] at hhi; subst hhi
      exact ⟨cap, by omega, Nat.le_refl _, by simp only [Instr.sliceBounds, Option.map_none, Option.map_some, hk.sc_inv.1, Sem.run_bind, Sem.run_pure, Result.andThen_ok, hI k lo rows.length _ h1]⟩
    · have := (hmx _ rfl).1; simp at this
    · obtain ⟨k, hk⟩ := hlo
      obtain ⟨k', hk'⟩ := hhi
      exact ⟨cap, by omega, Nat.le_refl _, by simp only [Instr.sliceBounds, Option.map_none, Option.map_some, hk.sc_inv.1, hk'.sc_inv.1, Sem.run_bind, Sem.run_pure, Result.andThen_ok, hI k lo hi _ h1, hI k' hi cap _ (by omega)]⟩
    · obtain ⟨k, hk⟩ := hlo
      obtain ⟨k', hk'⟩ := hhi
      obtain ⟨_, k'', mx, hm, hm1, hm2⟩ := hmx _ rfl
      exact ⟨mx, hm1, by omega, by simp only [Instr.sliceBounds, Option.map_some, hk.sc_inv.1, hk'.sc_inv.1, hm.sc_inv.1, Sem.run_bind, Sem.run_pure, Result.andThen_ok, hI k lo hi _ h1, hI k' hi mx _ hm1, hI k'' mx cap _ (by omega)]⟩
  obtain ⟨m, hm1, hm2, hB⟩ := key
  refine op_quiet (v := .slice (if m = lo then A else A.map (·.add (lo * ie.n))) (hi - lo) (m - lo)) hW ?_ ?_
  · simp only [execOp, ho, hv, Instr.sliceAt, Instr.slice, Sem.run_bind, hU, hS, hB, Result.andThen_ok, Sem.run_pure]
  · rw [← hlen]
    refine .c _ _ (.sl _ _ _ sz (fun j i => vals (lo + j) i) (by omega) (by omega) (fun hp => ?_) (fun j row hj => ?_) (fun ad hAd j hj i hi' => ?_) (fun j row i c hj hi' => ?_))
    · have hs := hA (by omega)
      split
      · exact hs
      · simpa using hs
    · rw [List.getElem?_drop, List.getElem?_take] at hj
      split at hj
      · exact hrl _ _ hj
      · cases hj
    · have hlt : lo + j < rows.length := by omega
      have hsz : ie.n = sz := by rw [← hrow _ (List.getElem_mem hlt)]; exact hrl _ _ (List.getElem?_eq_getElem hlt)
      have hne : m ≠ lo := by omega
      rw [if_neg hne] at hAd
      obtain ⟨a0, rfl, rfl⟩ := Option.map_eq_some_iff.1 hAd
      rw [add_add, hsz, show lo * sz + (j * sz + i) = (lo + j) * sz + i by rw [Nat.add_mul]; omega]
      exact hcell a0 rfl (lo + j) hlt i hi'
    · rw [List.getElem?_drop, List.getElem?_take] at hj
      split at hj
      · exact hval _ _ _ _ hj hi'
      · cases hj

theorem op_lenSl {x : Operand} {t : TypeId} {i : TyI} {e : Nat} {rows : List (List C)} (ho : o.op = .call { callee := .builtin .len, args := #[x], argTypes := #[t] }) (hty : tyOk P t i = true) (hsl : i.sl = some e)
    (hW : WR base w0 Z β cr lv fz bx w) (hx : AR Z w β cr (.c (.sl rows)) (a.eval x)) : OpRun P o a w (Post base w0 Z β cr lv fz bx nb { res := .c (.sc (.int .i64 rows.length)) } w) := by
  obtain ⟨A, cap, sz, vals, hv, _⟩ := hx.sl_inv.sl_inv
  have hu := (tyOk_spec hty).2.2.1 e hsl
  refine op_quiet (v := .int .i64 rows.length) hW ?_ (.c _ _ (.sc _ rfl))
  simp [execOp, ho, resolve, invoke, builtin, hv, Builtin.len_, underlying, hu, goInt]
theorem op_lenNil {x : Operand} {t : TypeId} {i : TyI} {e : Nat} (ho : o.op = .call { callee := .builtin .len, args := #[x], argTypes := #[t] }) (hty : tyOk P t i = true) (hsl : i.sl = some e)
    (hW : WR base w0 Z β cr lv fz bx w) (hx : AR Z w β cr .nil (a.eval x)) : OpRun P o a w (Post base w0 Z β cr lv fz bx nb { res := .c (.sc (.int .i64 0)) } w) := by
  have hv : a.eval x = .slice none 0 0 := by
    generalize hq : a.eval x = q at hx
    cases hx
    rfl
  have hu := (tyOk_spec hty).2.2.1 e hsl
  refine op_quiet (v := .int .i64 0) hW ?_ (.c _ _ (.sc _ rfl))
  simp [execOp, ho, resolve, invoke, builtin, hv, Builtin.len_, underlying, hu, goInt]
theorem op_lenOwn {x : Operand} {t : TypeId} {i : TyI} {e e' sz b : Nat} {rs : List (List C)} (ho : o.op = .call { callee := .builtin .len, args := #[x], argTypes := #[t] }) (hty : tyOk P t i = true) (hsl : i.sl = some e)
    (hW : WR base w0 Z β cr lv fz bx w) (hx : AR Z w β cr (.own b) (a.eval x)) (hlv : lv b) (hb : bx b = some (.rows e' sz rs)) : OpRun P o a w (Post base w0 Z β cr lv fz bx nb { res := .c (.sc (.int .i64 rs.length)) } w) := by
  have hx' : a.eval x = β b := by
    generalize hq : a.eval x = q at hx
    cases hx with | own b hb => rfl
  obtain ⟨xx, hxx, hB⟩ := hW.box b hlv
  rw [hb] at hxx
  injection hxx with hxx
  subst hxx
  have hu := (tyOk_spec hty).2.2.1 e hsl
  refine op_quiet (v := .int .i64 rs.length) hW ?_ (.c _ _ (.sc _ rfl))
  cases hB with
  | rows e' sz rs inner hown hr hc ht hz =>
    rcases hown.2 with ⟨hv, hn⟩ | ⟨g, cap, cur, hv, _⟩ <;> simp [execOp, ho, resolve, invoke, builtin, hx', hv, Builtin.len_, underlying, hu, goInt]
    exact hn.symm ▸ rfl
theorem op_lenStr {x : Operand} {t : TypeId} {s : ByteArray} (ho : o.op = .call { callee := .builtin .len, args := #[x], argTypes := #[t] }) (hu : P.underlying t = some .string)
    (hW : WR base w0 Z β cr lv fz bx w) (hx : AR Z w β cr (.c (.sc (.string s))) (a.eval x)) : OpRun P o a w (Post base w0 Z β cr lv fz bx nb { res := .c (.sc (.int .i64 s.size)) } w) := by
  refine op_quiet (v := .int .i64 s.size) hW ?_ (.c _ _ (.sc _ rfl))
  simp [execOp, ho, resolve, invoke, builtin, hx.sc_inv.1, Builtin.len_, underlying, hu, goInt]
theorem op_nilCheck {x : Operand} {r : AV} (ho : o.op = .nilCheck x) (hW : WR base w0 Z β cr lv fz bx w) (hx : AR Z w β cr r (a.eval x)) (hr : (∃ cs, r = .pt cs) ∨ (∃ b off, r = .ptr b off)) :
    OpRun P o a w (Post base w0 Z β cr lv fz bx nb { res := r } w) := by
  refine op_quiet (v := a.eval x) hW ?_ hx
  rcases hr with ⟨cs, rfl⟩ | ⟨b, off, rfl⟩
  · generalize hq : a.eval x = q at hx
    cases hx
    simp [execOp, ho, hq]
  · generalize hq : a.eval x = q at hx
    cases hx
    simp [execOp, ho, hq]
def byteAt (s : ByteArray) (i : Nat) : Int := if h : i < s.size then (s[i].toNat : Int) else 0
theorem op_indexStr {t : TypeId} {x y : Operand} {s : ByteArray} {k : IntKind} {j : Int} (ho : o.op = .index t x y) (hu : P.underlying t = some .string)
    (hW : WR base w0 Z β cr lv fz bx w) (hx : AR Z w β cr (.c (.sc (.string s))) (a.eval x)) (hy : AR Z w β cr (.c (.sc (.int k j))) (a.eval y)) (h0 : 0 ≤ j) (hlt : j < s.size) :
    OpRun P o a w (Post base w0 Z β cr lv fz bx nb { res := .c (.sc (.int .u8 (byteAt s j.toNat))) } w) := by
  have hl : j.toNat < s.size := by omega
  refine op_quiet (v := .int .u8 (byteAt s j.toNat)) hW ?_ (.c _ _ (.sc _ rfl))
  simp [execOp, ho, hx.sc_inv.1, hy.sc_inv.1, Instr.index, asIntOf, underlying, hu, h0, hl, byteAt]
end
end Go.Vam
