/- An abstract machine over data (part 4): the operations that make memory. -/
import Derived.Test.YtncipmjchifcgaaVam3
set_option linter.unusedVariables false
set_option linter.unusedSimpArgs false
namespace Go.Vam
open Go.RowKit

theorem fold_set_list (off : Nat) : ∀ (l : List Value) (k : Nat) (cells : Array Value), off + k + l.length ≤ cells.size →
    ((l.zipIdx k).foldl (fun cs (x : Value × Nat) => cs.setIfInBounds (off + x.2) x.1) cells).size = cells.size ∧
    ∀ i : Nat, ((l.zipIdx k).foldl (fun cs (x : Value × Nat) => cs.setIfInBounds (off + x.2) x.1) cells)[i]? = if off + k ≤ i ∧ i < off + k + l.length then l[i - off - k]? else cells[i]?
  | [], k, cells, _ => ⟨rfl, fun i => by rw [if_neg (by simp)]; rfl⟩
  | v :: l, k, cells, h => by
    simp only [List.length_cons] at h
    obtain ⟨h1, h2⟩ := fold_set_list off l (k + 1) (cells.setIfInBounds (off + k) v) (by simp; omega)
    simp only [List.zipIdx_cons, List.foldl_cons]
    refine ⟨by rw [h1]; simp, fun i => ?_⟩
    rw [h2]
    by_cases hi : i = off + k
    · subst hi
      rw [if_neg (by omega), if_pos (by simp)]
      have : off + k < cells.size := by omega
      simp [this]
    · by_cases hr : off + (k + 1) ≤ i ∧ i < off + (k + 1) + l.length
      · rw [if_pos hr, if_pos (by simp; omega)]
        rw [show i - off - k = (i - off - (k + 1)) + 1 by omega, List.getElem?_cons_succ]
      · rw [if_neg hr, if_neg (by simp; omega)]
        rw [Array.getElem?_setIfInBounds_ne (by omega)]
theorem fold_set (off : Nat) (vs cells : Array Value) (h : off + vs.size ≤ cells.size) :
    (vs.zipIdx.foldl (fun cs (x : Value × Nat) => cs.setIfInBounds (off + x.2) x.1) cells).size = cells.size ∧
    ∀ i : Nat, (vs.zipIdx.foldl (fun cs (x : Value × Nat) => cs.setIfInBounds (off + x.2) x.1) cells)[i]? = if off ≤ i ∧ i < off + vs.size then vs[i - off]? else cells[i]? := by
  have := fold_set_list off vs.toList 0 cells (by simpa using h)
  rw [← Array.foldl_toList]
  simpa using this

/-! ### 1. Parts of a value that is built -/
def rowOf : AV → Option (List C)
  | .c x => some [x]
  | .nil => some [.sl []]
  | .agg cs => some cs
  | _ => none
def CsO (Z : Zone) (w : World) (cs : List (Option C)) (arr : Array Value) : Prop :=
  arr.size = cs.length ∧ ∀ (i : Nat) (c : C) (v : Value), cs[i]? = some (some c) → arr[i]? = some v → CR Z w c v ∧ v.oneCell' = true
theorem AR.rowOf {Z : Zone} {w : World} {β : Nat → Value} {cr : Nat → Prop} {x : AV} {v : Value} (h : AR Z w β cr x v) {row : List C} (hr : rowOf x = some row) :
    v.cells.size = row.length ∧ ∀ (i : Nat) (c : C) (u : Value), row[i]? = some c → v.cells[i]? = some u → CR Z w c u := by
  cases h with
  | c x v h =>
    simp only [Vam.rowOf, Option.some.injEq] at hr
    subst hr
    have : v.cells = #[v] := by cases v <;> first | rfl | (have := h.one; simp [Value.oneCell'] at this)
    rw [this]
    refine ⟨rfl, fun i c u h1 h2 => ?_⟩
    match i with
    | 0 =>
      simp at h1 h2
      subst h1; subst h2
      exact h
    | i + 1 => simp at h1
  | nil =>
    simp only [Vam.rowOf, Option.some.injEq] at hr
    subst hr
    refine ⟨rfl, fun i c u h1 h2 => ?_⟩
    match i with
    | 0 =>
      simp [Value.cells] at h1 h2
      subst h1; subst h2
      exact CR.nil _ _
    | i + 1 => simp at h1
  | agg cs vs hl h =>
    simp only [Vam.rowOf, Option.some.injEq] at hr
    subst hr
    exact ⟨hl, h⟩
  | any | und | pt | ptr | own | optr | tup | clo | yld => simp [Vam.rowOf] at hr

def fillC (place : Nat → Option (Nat × Nat)) : List (Nat × AV) → List (Option C) → Option (List (Option C))
  | [], cs => some cs
  | (i, x) :: rest, cs =>
    match place i, rowOf x with
    | some (off, n), some row => if row.length = n ∧ off + n ≤ cs.length then fillC place rest (cs.take off ++ row.map some ++ cs.drop (off + n)) else none
    | _, _ => none
theorem fillC_sound {Z : Zone} {w : World} {β : Nat → Value} {cr : Nat → Prop} {place : Nat → Option (Nat × Nat)} : ∀ (parts : List (Nat × AV)) (vparts : List (Nat × Value)) (cs r : List (Option C)) (arr : Array Value),
    parts.map (·.1) = vparts.map (·.1) → (∀ (k : Nat) (p : Nat × AV) (q : Nat × Value), parts[k]? = some p → vparts[k]? = some q → AR Z w β cr p.2 q.2) → CsO Z w cs arr → fillC place parts cs = some r →
    ∃ arr', Instr.fill place arr vparts = some arr' ∧ CsO Z w r arr'
  | [], [], cs, r, arr, _, _, hc, hr => by
    simp only [fillC, Option.some.injEq] at hr
    subst hr
    exact ⟨arr, rfl, hc⟩
  | [], _ :: _, _, _, _, h, _, _, _ => by simp at h
  | _ :: _, [], _, _, _, h, _, _, _ => by simp at h
  | (i, x) :: parts, (i', v) :: vparts, cs, r, arr, hm, hA, hc, hr => by
    simp only [List.map_cons, List.cons.injEq] at hm
    obtain ⟨rfl, hm⟩ := hm
    simp only [fillC] at hr
    cases hp : place i with
    | none => rw [hp] at hr; simp at hr
    | some on =>
      obtain ⟨off, n⟩ := on
      cases hrow : rowOf x with
      | none => rw [hp, hrow] at hr; simp at hr
      | some row =>
        rw [hp, hrow] at hr
        simp only at hr
        split at hr
        · rename_i hcond
          obtain ⟨hl, hle⟩ := hcond
          have hx := hA 0 (i, x) (i, v) rfl rfl
          obtain ⟨hs, hcells⟩ := hx.rowOf hrow
          have hx1 : ∀ (k : Nat) (u : Value), v.cells[k]? = some u → u.oneCell' = true := fun k u hu => by
            have hk : k < row.length := by rw [← hs]; exact (Array.getElem?_eq_some_iff.1 hu).1
            exact (hcells k _ u (List.getElem?_eq_getElem hk) hu).one
          obtain ⟨f1, f2⟩ := fold_set off v.cells arr (by rw [hs, hl, hc.1]; exact hle)
          have hfill : Instr.fill place arr ((i, v) :: vparts) = Instr.fill place (v.cells.zipIdx.foldl (fun cs (x : Value × Nat) => cs.setIfInBounds (off + x.2) x.1) arr) vparts := by
            have hn : ¬ (v.cells.size ≠ n ∨ arr.size < off + v.cells.size) := by rw [hs, hl, hc.1]; omega
            simp only [Instr.fill, hp]
            rw [if_neg (by simpa using hn)]
          rw [hfill]
          refine fillC_sound parts vparts _ r _ hm (fun k p q h1 h2 => hA (k + 1) p q h1 h2) ⟨?_, fun k c u h1 h2 => ?_⟩ hr
          · rw [f1, hc.1]
            simp; omega
          · rw [f2] at h2
            have hsz : v.cells.size = n := by rw [hs, hl]
            rw [hsz] at h2
            have hlt : (cs.take off).length = off := by simp; omega
            by_cases hk : k < off
            · rw [if_neg (by omega)] at h2
              rw [List.append_assoc, List.getElem?_append_left (by omega), List.getElem?_take, if_pos hk] at h1
              exact hc.2 k c u h1 h2
            · by_cases hk2 : k < off + n
              · rw [if_pos (by omega)] at h2
                rw [List.append_assoc, List.getElem?_append_right (by omega), List.getElem?_append_left (by simp; omega), hlt, List.getElem?_map] at h1
                cases hq : row[k - off]? with
                | none => rw [hq] at h1; simp at h1
                | some c' =>
                  rw [hq] at h1
                  simp only [Option.map_some, Option.some.injEq] at h1
                  subst h1
                  exact ⟨hcells _ _ _ hq h2, hx1 _ _ h2⟩
              · rw [if_neg (by omega)] at h2
                rw [List.getElem?_append_right (by simp; omega), List.getElem?_drop] at h1
                simp only [List.length_append, hlt, List.length_map, hl] at h1
                rw [show off + n + (k - (off + n)) = k by omega] at h1
                exact hc.2 k c u h1 h2
        · simp at hr

section
variable {P : Program} {tt : TT} {base : Nat} {w0 : World} {Z : Zone} {β : Nat → Value} {cr lv fz : Nat → Prop} {bx : Nat → Option Bx} {nb : Nat} {w : World} {a : Act} {o : Oper}

theorem isZeroOf_AR {x : AV} {v : Value} (h : isZeroOf x v = true) : AR Z w β cr x v := by
  unfold isZeroOf at h
  split at h
  · simp only [Bool.and_eq_true, beq_iff_eq] at h
    obtain ⟨rfl, rfl⟩ := h
    exact .c _ _ (.sc _ rfl)
  · simp only [beq_iff_eq] at h
    subst h
    exact .c _ _ (.sc _ rfl)
  · rename_i s s'
    simp only [Bool.and_eq_true, beq_iff_eq] at h
    obtain ⟨h1, h2⟩ := h
    have e : s = s' := by
      cases s with | mk d => cases s' with | mk d' =>
        have h1' : d.size = 0 := h1
        have h2' : d'.size = 0 := h2
        have e1 := Array.eq_empty_of_size_eq_zero h1'
        have e2 := Array.eq_empty_of_size_eq_zero h2'
        rw [e1, e2]
    subst e
    exact .c _ _ (.sc _ rfl)
  · exact .nil
  · exact .any _
  · simp at h

theorem grown_alloc (w : World) (o : Obj) : w.grownBy (w.alloc o) none := World.grownBy_alloc w o none

/-- A box of cells that is laid. -/
theorem post_box {cs : List AV} {arr : Array Value} {t : TypeId} (hW : WR base w0 Z β cr lv fz bx w) (hnb : ¬ cr nb) (hbx : bx nb = some (.cells cs)) (hl : arr.size = cs.length)
    (hc : ∀ (i : Nat) (x : AV) (v : Value), cs[i]? = some x → arr[i]? = some v → AR Z w β cr x v) :
    Post base w0 Z β cr lv fz bx nb { res := .ptr nb 0, nw := some (.cells cs) } w (.pointer (some ⟨w.heap.size, 0, none⟩)) (w.alloc (.cells arr t)) := by
  have hg := grown_alloc w (.cells arr t)
  have he : Ext Z Z w (w.alloc (.cells arr t)) := ext_of_grown hg hW.zin (fun a _ => by simp)
  refine Post.alloc (u := .pointer (some ⟨w.heap.size, 0, none⟩)) hW hnb hbx hg (fun g h => by simp [blk] at h; omega) (fun β' cr' fz' hb hn hu => ?_) (fun β' cr' hb hn hu => .ptr nb 0 _ hn hu)
  refine .cells cs w.heap.size arr t hu hW.hbase (heap_alloc_new w _) hl (fun i x v h1 h2 => (hc i x v h1 h2).ext he hb) (fun _ a ha e => ?_)
  have := hW.zin a ha
  omega

theorem op_alloc {t : TypeId} {i : TyI} (ho : o.op = .alloc t) (hty : tyOk P t i = true) (hz : i.zero ≠ []) (hW : WR base w0 Z β cr lv fz bx w) (hnb : ¬ cr nb) (hbx : bx nb = some (.cells i.zero)) :
    OpRun P o a w (Post base w0 Z β cr lv fz bx nb { res := .ptr nb 0, nw := some (.cells i.zero) } w) := by
  obtain ⟨_, ⟨inf, hinf, hinfn, _, hzero⟩, _⟩ := tyOk_spec hty
  obtain ⟨z, hz1, hz2, hz3, hz4⟩ := hzero hz
  refine .value (v := .pointer (some ⟨w.heap.size, 0, none⟩)) (w' := w.alloc (.cells z.cells t)) ?_ (post_box hW hnb hbx (by omega) fun k x v h1 h2 => isZeroOf_AR (hz4 k x v h1 h2).1)
  simp [execOp, ho, Instr.alloc, zeroValue, typeInfo, hinf, hz1, newVar, newRow]

/-- The cells of a value that is boxed or stored. -/
def stOf (bx : Nat → Option Bx) (dead : List Nat) : AV → Option (List AV)
  | .c x => some [.c x]
  | .nil => some [.nil]
  | .agg cs => some (cs.map .c)
  | .pt cs => some [.pt cs]
  | .ptr b off => some [.ptr b off]
  | .clo g f c => some [.clo g f c]
  | .own b => if b ∈ dead then none else match bx b with
    | some (.rows _ _ _) => some [.own b]
    | _ => none
  | _ => none
theorem stOf_sound {x : AV} {v : Value} {cs : List AV} {deadl : List Nat} {bxR : Nat → Option Bx} (hW : WR base w0 Z β cr lv fz bx w) (hdead : ∀ b, x = .own b → cr b → b ∉ deadl → lv b ∧ bx b = bxR b) (h : AR Z w β cr x v) (hb : stOf bxR deadl x = some cs) :
    v.cells.size = cs.length ∧ ∀ (i : Nat) (y : AV) (u : Value), cs[i]? = some y → v.cells[i]? = some u → AR Z w β cr y u ∧ u.oneCell' = true := by
  have one : ∀ (y : AV) (v : Value), v.cells = #[v] → v.oneCell' = true → AR Z w β cr y v → v.cells.size = [y].length ∧ ∀ (i : Nat) (z : AV) (u : Value), [y][i]? = some z → v.cells[i]? = some u → AR Z w β cr z u ∧ u.oneCell' = true := fun y v hv h1 h => by
    rw [hv]
    refine ⟨rfl, fun i z u h1 h2 => ?_⟩
    match i with
    | 0 =>
      simp at h1 h2
      subst h1; subst h2
      exact ⟨h, by assumption⟩
    | i + 1 => simp at h1
  have h0 := h
  cases h with
  | c x v h =>
    simp only [stOf, Option.some.injEq] at hb
    subst hb
    exact one _ _ (by cases v <;> first | rfl | (have := h.one; simp [Value.oneCell'] at this)) h.one h0
  | nil => simp only [stOf, Option.some.injEq] at hb; subst hb; exact one _ _ rfl rfl h0
  | pt => simp only [stOf, Option.some.injEq] at hb; subst hb; exact one _ _ rfl rfl h0
  | ptr => simp only [stOf, Option.some.injEq] at hb; subst hb; exact one _ _ rfl rfl h0
  | clo => simp only [stOf, Option.some.injEq] at hb; subst hb; exact one _ _ rfl rfl h0
  | own b hcb =>
    simp only [stOf] at hb
    split at hb
    · simp at hb
    · rename_i hnd
      obtain ⟨hlv, hbe⟩ := hdead b rfl hcb hnd
      split at hb
      · rename_i e sz rs hbx
        simp only [Option.some.injEq] at hb
        subst hb
        obtain ⟨xx, hxx, hB⟩ := hW.box b hlv
        rw [hbe, hbx] at hxx
        injection hxx with hxx
        subst hxx
        cases hB with
        | rows e sz rs inner hown hr hc ht hz =>
          rcases hown.2 with ⟨hv, _⟩ | ⟨g, cap, cur, hv, _⟩
          · exact one _ _ (by rw [hv]; rfl) (by rw [hv]; rfl) h0
          · exact one _ _ (by rw [hv]; rfl) (by rw [hv]; rfl) h0
      · simp at hb
  | agg cs vs hl h =>
    simp only [stOf, Option.some.injEq] at hb
    subst hb
    refine ⟨by simpa [Value.cells] using hl, fun i y u h1 h2 => ?_⟩
    rw [List.getElem?_map] at h1
    cases hq : cs[i]? with
    | none => rw [hq] at h1; simp at h1
    | some c =>
      rw [hq] at h1
      simp only [Option.map_some, Option.some.injEq] at h1
      subst h1
      have := h i c u hq h2
      exact ⟨.c _ _ this, this.one⟩
  | any | und | optr | tup | yld => simp [stOf] at hb
theorem op_box {t : TypeId} {x : Operand} {r : AV} {cs : List AV} (ho : o.op = .box t x) (hW : WR base w0 Z β cr lv fz bx w) {deadl : List Nat} {bxR : Nat → Option Bx} (hx : AR Z w β cr r (a.eval x)) (hr : stOf bxR deadl r = some cs) (hdead : ∀ b, r = .own b → cr b → b ∉ deadl → lv b ∧ bx b = bxR b) (hnb : ¬ cr nb) (hbx : bx nb = some (.cells cs)) :
    OpRun P o a w (Post base w0 Z β cr lv fz bx nb { res := .ptr nb 0, nw := some (.cells cs) } w) := by
  obtain ⟨h1, h2⟩ := stOf_sound hW hdead hx hr
  refine .value (v := .pointer (some ⟨w.heap.size, 0, none⟩)) (w' := w.alloc (.cells (a.eval x).cells t)) ?_ (post_box hW hnb hbx h1 fun i y u e1 e2 => (h2 i y u e1 e2).1)
  simp [execOp, ho, Instr.box, newVar, newRow]

/-! ### 2. build -/
def allC : List (Option C) → Option (List C)
  | [] => some []
  | none :: _ => none
  | some c :: l => (allC l).map (c :: ·)
theorem allC_spec : ∀ (l : List (Option C)) (r : List C), allC l = some r → l = r.map some
  | [], r, h => by simp only [allC, Option.some.injEq] at h; subst h; rfl
  | none :: l, r, h => by simp [allC] at h
  | some c :: l, r, h => by
    simp only [allC] at h
    obtain ⟨r', h1, rfl⟩ := Option.map_eq_some_iff.1 h
    rw [allC_spec l r' h1]
    rfl
def zeroO : List AV → List (Option C)
  | [] => []
  | x :: l => (if isC x then some (toC x) else none) :: zeroO l
theorem zeroO_spec : ∀ (l : List AV), (zeroO l).length = l.length ∧ ∀ (i : Nat) (c : C), (zeroO l)[i]? = some (some c) → ∃ x, l[i]? = some x ∧ isC x = true ∧ toC x = c
  | [] => ⟨rfl, fun i c h => by simp [zeroO] at h⟩
  | x :: l => by
    obtain ⟨h1, h2⟩ := zeroO_spec l
    refine ⟨by simp [zeroO, h1], fun i c h => ?_⟩
    match i with
    | 0 =>
      simp only [zeroO, List.getElem?_cons_zero, Option.some.injEq] at h
      split at h
      · rename_i hc
        simp only [Option.some.injEq] at h
        exact ⟨x, rfl, hc, h⟩
      · simp at h
    | i + 1 =>
      simp only [zeroO, List.getElem?_cons_succ] at h ⊢
      exact h2 i c h
def placeOf (fs : List (Nat × Nat × Nat × Bool)) (k : Nat) : Option (Nat × Nat) := (fs[k]?).map fun f => (f.1, f.2.2.1)
theorem run_mapM {α β : Type} (g : α → Sem β) (r : α → β) : ∀ (l : List α), (∀ x ∈ l, ∀ w, (g x).run P w = .ok (r x) w) → ∀ w, (l.mapM g).run P w = .ok (l.map r) w
  | [], _, w => by simp
  | x :: l, h, w => by
    rw [List.mapM_cons]
    simp only [Sem.run_bind, h x (by simp) w, Result.andThen_ok, run_mapM g r l (fun y hy => h y (by simp [hy])) w, Sem.run_pure, List.map_cons]
theorem run_mapM_array {α β : Type} (g : α → Sem β) (r : α → β) (l : Array α) (h : ∀ x ∈ l, ∀ w, (g x).run P w = .ok (r x) w) (w : World) : (l.mapM g).run P w = .ok (l.map r) w := by
  cases l with | mk l =>
  rw [List.mapM_toArray]
  simp only [Sem.run_map, run_mapM g r l (fun x hx => h x (by simpa using hx)) w, Result.andThen_ok, List.map_toArray]

theorem parts_AR {parts : Array (Nat × Operand)} {ρ : Operand → AV} (hA : ∀ p ∈ parts, AR Z w β cr (ρ p.2) (a.eval p.2)) :
    (parts.toList.map fun p => (p.1, ρ p.2)).map (·.1) = ((parts.map fun p => (p.1, a.eval p.2)).toList).map (·.1) ∧
    ∀ (k : Nat) (p : Nat × AV) (q : Nat × Value), (parts.toList.map fun p => (p.1, ρ p.2))[k]? = some p → ((parts.map fun p => (p.1, a.eval p.2)).toList)[k]? = some q → AR Z w β cr p.2 q.2 := by
  refine ⟨by simp, fun k p q h1 h2 => ?_⟩
  rw [Array.toList_map, List.getElem?_map] at h2
  rw [List.getElem?_map] at h1
  cases hk : parts.toList[k]? with
  | none => rw [hk] at h1; simp at h1
  | some pp =>
    rw [hk] at h1 h2
    simp only [Option.map_some, Option.some.injEq] at h1 h2
    subst h1; subst h2
    exact hA pp (by simpa using List.mem_of_getElem? hk)

theorem op_build {t : TypeId} {parts : Array (Nat × Operand)} {i : TyI} {ρ : Operand → AV} {f : List (Option C)} {r : List C} (ho : o.op = .build t parts) (hty : tyOk P t i = true) (hz : i.zero ≠ []) (hfs : i.fs ≠ [])
    (hW : WR base w0 Z β cr lv fz bx w) (hA : ∀ p ∈ parts, AR Z w β cr (ρ p.2) (a.eval p.2))
    (hf : fillC (placeOf i.fs) (parts.toList.map fun p => (p.1, ρ p.2)) (zeroO i.zero) = some f) (hr : allC f = some r) :
    OpRun P o a w (Post base w0 Z β cr lv fz bx nb { res := .agg r } w) := by
  obtain ⟨_, ⟨inf, hinf, hinfn, _, hzero⟩, _, hF⟩ := tyOk_spec hty
  obtain ⟨z, hz1, hz2, hz3, hz4⟩ := hzero hz
  obtain ⟨x0, xs, hx0⟩ := List.exists_cons_of_ne_nil hfs
  obtain ⟨off0, ty0, n0, ag0⟩ := x0
  obtain ⟨fields, hu, hfsz⟩ := tyOk_fields hty (k := 0) (by rw [hx0]; rfl)
  have hU : (underlying t).run P w = .ok (.struct fields) w := by simp [underlying, hu]
  have hfield : ∀ (k : Nat) (fd : Field), fields[k]? = some fd → ∃ off ty n ag, i.fs[k]? = some (off, ty, n, ag) ∧ fd.offset = off ∧ ∀ w, (sizeOf fd.type).run P w = .ok n w := fun k fd hk => by
    have hlt : k < i.fs.length := by rw [← hfsz]; exact (Array.getElem?_eq_some_iff.1 hk).1
    rcases hq : i.fs[k] with ⟨off, ty, n, ag⟩
    have hk2 : i.fs[k]? = some (off, ty, n, ag) := by rw [List.getElem?_eq_getElem hlt, hq]
    obtain ⟨fields', fd', hu', hfd, h1, h2, _, h3, _⟩ := hF k off ty n ag hk2
    rw [hu] at hu'
    injection hu' with hu'
    injection hu' with hu'
    subst hu'
    rw [hk] at hfd
    injection hfd with hfd
    subst hfd
    exact ⟨off, ty, n, ag, hk2, h1, by rw [h2]; exact h3⟩
  let rr : Field → Nat × Nat := fun fd => (fd.offset, match (sizeOf fd.type).run P w with | .ok n _ => n | _ => 0)
  have hplaces : (fields.mapM (fun (f : Field) => (do pure (f.offset, ← sizeOf f.type) : Sem (Nat × Nat)))).run P w = .ok (fields.map rr) w := by
    refine run_mapM_array _ rr fields (fun fd hfd w' => ?_) w
    obtain ⟨k, hk⟩ := List.mem_iff_getElem?.1 (Array.mem_toList_iff.2 hfd)
    obtain ⟨off, ty, n, ag, _, _, hs⟩ := hfield k fd (by simpa using hk)
    simp only [Sem.run_bind, hs, Result.andThen_ok, Sem.run_pure, rr]
  have hpl : ∀ k on, placeOf i.fs k = some on → (fields.map rr)[k]? = some on := fun k on h => by
    unfold placeOf at h
    obtain ⟨⟨off, ty, n, ag⟩, hk, rfl⟩ := Option.map_eq_some_iff.1 h
    obtain ⟨fields', fd', hu', hfd, h1, h2, _, h3, _⟩ := hF k off ty n ag hk
    rw [hu] at hu'
    injection hu' with hu'
    injection hu' with hu'
    subst hu'
    rw [Array.getElem?_map, hfd]
    simp [rr, h1, h2, h3]
  have hc0 : CsO Z w (zeroO i.zero) z.cells := by
    obtain ⟨l1, l2⟩ := zeroO_spec i.zero
    refine ⟨by rw [hz2, l1, hz3], fun k c v h1 h2 => ?_⟩
    obtain ⟨x, hx, hxc, rfl⟩ := l2 k c h1
    have := hz4 k x v hx h2
    exact ⟨toC_sound (β := β) (cr := cr) (isZeroOf_AR this.1) hxc, this.2⟩
  have mono : ∀ (ps : List (Nat × AV)) (cs r : List (Option C)), fillC (placeOf i.fs) ps cs = some r → fillC ((fields.map rr)[·]?) ps cs = some r := fun ps => by
    induction ps with
    | nil => intro cs r h; exact h
    | cons p ps ih =>
      intro cs r h
      obtain ⟨k, x⟩ := p
      simp only [fillC] at h ⊢
      cases hp : placeOf i.fs k with
      | none => rw [hp] at h; simp at h
      | some on =>
        rw [hp] at h
        rw [hpl k on hp]
        obtain ⟨off, n⟩ := on
        cases hrow : rowOf x with
        | none => rw [hrow] at h; simp at h
        | some row =>
          rw [hrow] at h
          simp only at h ⊢
          split at h
          · rename_i hc
            rw [if_pos hc]
            exact ih _ _ h
          · simp at h
  obtain ⟨hp1, hp2⟩ := parts_AR (a := a) hA
  obtain ⟨arr, hfill, hcs⟩ := fillC_sound (place := ((fields.map rr)[·]?)) _ _ _ _ _ hp1 hp2 hc0 (mono _ _ _ hf)
  refine .value (v := .agg arr) (w' := w) ?_ (.quiet hW (.refl _ _) ?_)
  · have hZ : (zeroValue t).run P w = .ok z w := by simp [zeroValue, typeInfo, hinf, hz1]
    simp only [execOp, ho, Instr.build, Sem.run_bind, hZ, Result.andThen_ok, hU, hplaces, hfill, Sem.run_pure]
  · have hf2 := allC_spec f r hr
    subst hf2
    refine .agg _ _ (by simpa using hcs.1) fun k c v h1 h2 => (hcs.2 k c v (by rw [List.getElem?_map, h1]; rfl) h2).1
def placeA (sz : Nat) (k : Nat) : Option (Nat × Nat) := some (k * sz, sz)
theorem op_buildA {t : TypeId} {parts : Array (Nat × Operand)} {i : TyI} {e sz n : Nat} {ag : Bool} {ρ : Operand → AV} {f : List (Option C)} {r : List C} (ho : o.op = .build t parts) (hty : tyOk P t i = true) (hz : i.zero ≠ []) (ha : i.ar = some (e, sz, n, ag))
    (hW : WR base w0 Z β cr lv fz bx w) (hA : ∀ p ∈ parts, AR Z w β cr (ρ p.2) (a.eval p.2))
    (hf : fillC (placeA sz) (parts.toList.map fun p => (p.1, ρ p.2)) (zeroO i.zero) = some f) (hr : allC f = some r) :
    OpRun P o a w (Post base w0 Z β cr lv fz bx nb { res := .agg r } w) := by
  obtain ⟨_, ⟨inf, hinf, hinfn, _, hzero⟩, _, _⟩ := tyOk_spec hty
  obtain ⟨hu, hsz, _, _, _⟩ := tyOk_ar hty ha
  obtain ⟨z, hz1, hz2, hz3, hz4⟩ := hzero hz
  have hU : (underlying t).run P w = .ok (.array n e) w := by simp [underlying, hu]
  have hc0 : CsO Z w (zeroO i.zero) z.cells := by
    obtain ⟨l1, l2⟩ := zeroO_spec i.zero
    refine ⟨by rw [hz2, l1, hz3], fun k c v h1 h2 => ?_⟩
    obtain ⟨x, hx, hxc, rfl⟩ := l2 k c h1
    have := hz4 k x v hx h2
    exact ⟨toC_sound (β := β) (cr := cr) (isZeroOf_AR this.1) hxc, this.2⟩
  obtain ⟨hp1, hp2⟩ := parts_AR (a := a) hA
  obtain ⟨arr, hfill, hcs⟩ := fillC_sound (place := placeA sz) _ _ _ _ _ hp1 hp2 hc0 hf
  refine .value (v := .agg arr) (w' := w) ?_ (.quiet hW (.refl _ _) ?_)
  · have hZ : (zeroValue t).run P w = .ok z w := by simp [zeroValue, typeInfo, hinf, hz1]
    have hfill' : Instr.fill (fun i => some (i * sz, sz)) z.cells (parts.map fun p => (p.1, a.eval p.2)).toList = some arr := hfill
    simp only [execOp, ho, Instr.build, Sem.run_bind, hZ, Result.andThen_ok, hU, hsz, hfill', Sem.run_pure]
  · have hf2 := allC_spec f r hr
    subst hf2
    refine .agg _ _ (by simpa using hcs.1) fun k c v h1 h2 => (hcs.2 k c v (by rw [List.getElem?_map, h1]; rfl) h2).1
end
end Go.Vam
