/- An abstract machine over data (part 2): what one operation does, and that the machine does it. -/
import Derived.Test.YtncipmjchifcgaaVam1
set_option linter.unusedVariables false
set_option linter.unusedSimpArgs false
namespace Go.Vam
open Go.RowKit

/-! ### 1. Types, as far as the machine asks -/
structure TyI where
  ag : Bool
  n : Nat
  bytes : Nat := 8
  sl : Option Nat := none
  fs : List (Nat × Nat × Nat × Bool) := []
  zero : List AV := []
  bl : Bool := false
  str : Bool := false
  ar : Option (Nat × Nat × Nat × Bool) := none

def descAg : TypeDesc → Bool
  | .struct _ => true
  | .array _ _ => true
  | _ => false
def isZeroOf : AV → Value → Bool
  | .c (.sc (.int k n)), .int k' n' => k == k' && n == n'
  | .c (.sc (.bool b)), .bool b' => b == b'
  | .c (.sc (.string s)), .string s' => s.size == 0 && s'.size == 0
  | .nil, .slice none 0 0 => true
  | .any, _ => true
  | _, _ => false
def fieldsOk (P : Program) (fields : Array Field) (fs : List (Nat × Nat × Nat × Bool)) : Bool :=
  fs.length == fields.size && (List.range fs.length).all fun k => match fs[k]?, fields[k]? with
    | some (off, ty, n, ag), some f => f.offset == off && f.type == ty && (match P.info? ty, P.underlying ty with | some i, some d => i.size == n && (0 : Nat) < n && descAg d == ag | _, _ => false)
    | _, _ => false
def tyOk0 (P : Program) (t : TypeId) (i : TyI) : Bool :=
  match P.info? t, P.underlying t with
  | some inf, some d =>
    inf.size == i.n && inf.bytes == i.bytes && descAg d == i.ag &&
    (match i.sl, d with | none, _ => true | some e, .slice e' => e == e' | _, _ => false) && (match i.bl, d with | false, _ => true | true, .bool => true | _, _ => false) && (match i.str, d with | false, _ => true | true, .string => true | _, _ => false) &&
    (match i.fs, d with | [], _ => true | fs, .struct fields => fieldsOk P fields fs | _, _ => false) &&
    (match i.zero with | [] => true | zs => match inf.zero with
      | some z => z.cells.size == i.n && zs.length == i.n && (List.range zs.length).all fun k => match zs[k]?, z.cells[k]? with
        | some x, some v => isZeroOf x v && v.oneCell'
        | _, _ => false
      | none => false)
  | _, _ => false
/-- An array's things: their type, how many cells each takes, how many there are, whether each is a struct or an array. -/
def arOk (P : Program) (t : TypeId) (i : TyI) : Bool :=
  match i.ar with
  | none => true
  | some (e, sz, n, ag) => match P.underlying t, P.info? e, P.underlying e with
    | some (.array n' e'), some ie, some de => n' == n && e' == e && ie.size == sz && decide (0 < sz) && decide (2 ≤ n) && descAg de == ag
    | _, _, _ => false
def tyOk (P : Program) (t : TypeId) (i : TyI) : Bool := tyOk0 P t i && arOk P t i
abbrev TT := TypeId → Option TyI
def TOk (P : Program) (tt : TT) : Prop := ∀ t i, tt t = some i → tyOk P t i = true

theorem tyOk_spec {P : Program} {t : TypeId} {i : TyI} (h : tyOk P t i = true) :
    (∀ w, (isAgg t).run P w = .ok i.ag w) ∧ (∃ inf, P.info? t = some inf ∧ inf.size = i.n ∧ inf.bytes = i.bytes ∧
      (i.zero ≠ [] → ∃ z, inf.zero = some z ∧ z.cells.size = i.n ∧ i.zero.length = i.n ∧ ∀ (k : Nat) (x : AV) (v : Value), i.zero[k]? = some x → z.cells[k]? = some v → isZeroOf x v = true ∧ v.oneCell' = true)) ∧
    (∀ e, i.sl = some e → P.underlying t = some (.slice e)) ∧
    (∀ (k off ty n : Nat) (ag : Bool), i.fs[k]? = some (off, ty, n, ag) → ∃ (fields : Array Field) (f : Field), P.underlying t = some (.struct fields) ∧ fields[k]? = some f ∧ f.offset = off ∧ f.type = ty ∧ 0 < n ∧
      (∀ w, (sizeOf ty).run P w = .ok n w) ∧ (∀ w, (isAgg ty).run P w = .ok ag w)) := by
  replace h := (Bool.and_eq_true _ _ ▸ h : tyOk0 P t i = true ∧ arOk P t i = true).1
  unfold tyOk0 at h
  cases hi : P.info? t with
  | none => rw [hi] at h; simp at h
  | some inf =>
    cases hd : P.underlying t with
    | none => rw [hi, hd] at h; simp at h
    | some d =>
      rw [hi, hd] at h
      simp only [Bool.and_eq_true, beq_iff_eq] at h
      obtain ⟨⟨⟨⟨⟨⟨⟨h1, h2⟩, h3⟩, h4⟩, _⟩, _⟩, h5⟩, h6⟩ := h
      refine ⟨fun w => ?_, ⟨inf, rfl, h1, h2, fun hz => ?_⟩, fun e he => ?_, fun k off ty n ag hk => ?_⟩
      · have hu : (underlying t).run P w = .ok d w := by simp [underlying, hd]
        unfold isAgg
        simp only [Sem.run_bind, hu, Result.andThen_ok]
        cases d <;> simp_all [descAg]
      · cases hzz : i.zero with
        | nil => exact absurd hzz hz
        | cons x xs =>
          rw [hzz] at h6
          simp only at h6
          cases hz0 : inf.zero with
          | none => rw [hz0] at h6; simp at h6
          | some z =>
            rw [hz0] at h6
            simp only [Bool.and_eq_true, beq_iff_eq, List.all_eq_true, List.mem_range] at h6
            refine ⟨z, rfl, h6.1.1, h6.1.2, fun k x' v hx hv => ?_⟩
            have hk := (List.getElem?_eq_some_iff.1 hx).1
            have := h6.2 k hk
            rw [hx, hv] at this
            simpa using this
      · rw [he] at h4
        cases d <;> simp_all
      · cases hfs : i.fs with
        | nil => rw [hfs] at hk; simp at hk
        | cons x xs =>
          rw [hfs] at h5
          cases d with
          | struct fields =>
            simp only [fieldsOk, Bool.and_eq_true, beq_iff_eq, List.all_eq_true, List.mem_range] at h5
            rw [hfs] at hk
            have hlt := (List.getElem?_eq_some_iff.1 hk).1
            have := h5.2 k hlt
            rw [hk] at this
            cases hf : fields[k]? with
            | none => rw [hf] at this; simp at this
            | some f =>
              rw [hf] at this
              simp only [Bool.and_eq_true, beq_iff_eq] at this
              obtain ⟨⟨e1, e2⟩, e3⟩ := this
              cases hti : P.info? ty with
              | none => rw [hti] at e3; simp at e3
              | some ti =>
                cases htd : P.underlying ty with
                | none => rw [hti, htd] at e3; simp at e3
                | some td =>
                  rw [hti, htd] at e3
                  simp only [Bool.and_eq_true, beq_iff_eq, decide_eq_true_eq] at e3
                  obtain ⟨⟨s1, s2⟩, s3⟩ := e3
                  refine ⟨fields, f, rfl, hf, e1, e2, s2, fun w => ?_, fun w => ?_⟩
                  · simp [sizeOf, typeInfo, hti, s1]
                  · have hu : (underlying ty).run P w = .ok td w := by simp [underlying, htd]
                    unfold isAgg
                    simp only [Sem.run_bind, hu, Result.andThen_ok]
                    cases td <;> simp_all [descAg]
          | _ => simp at h5

theorem tyOk_ar {P : Program} {t : TypeId} {i : TyI} (h : tyOk P t i = true) {e sz n : Nat} {ag : Bool} (ha : i.ar = some (e, sz, n, ag)) :
    P.underlying t = some (.array n e) ∧ (∀ w, (sizeOf e).run P w = .ok sz w) ∧ (∀ w, (isAgg e).run P w = .ok ag w) ∧ 0 < sz ∧ 2 ≤ n := by
  replace h := (Bool.and_eq_true _ _ ▸ h : tyOk0 P t i = true ∧ arOk P t i = true).2
  unfold arOk at h
  rw [ha] at h
  simp only at h
  split at h
  · rename_i n' e' ie de h1 h2 h3
    simp only [Bool.and_eq_true, beq_iff_eq, decide_eq_true_eq] at h
    obtain ⟨⟨⟨⟨⟨rfl, rfl⟩, h4⟩, h5⟩, h6⟩, h7⟩ := h
    refine ⟨h1, fun w => by simp [sizeOf, typeInfo, h2, h4], fun w => ?_, h5, h6⟩
    have hu : (underlying e').run P w = .ok de w := by simp [underlying, h3]
    unfold isAgg
    simp only [Sem.run_bind, hu, Result.andThen_ok]
    cases de <;> simp_all [descAg]
  · simp at h

theorem tyOk_fields {P : Program} {t : TypeId} {i : TyI} (h : tyOk P t i = true) {k off ty n : Nat} {ag : Bool} (hk : i.fs[k]? = some (off, ty, n, ag)) :
    ∃ fields : Array Field, P.underlying t = some (.struct fields) ∧ fields.size = i.fs.length := by
  replace h := (Bool.and_eq_true _ _ ▸ h : tyOk0 P t i = true ∧ arOk P t i = true).1
  unfold tyOk0 at h
  cases hi : P.info? t with
  | none => rw [hi] at h; simp at h
  | some inf =>
    cases hd : P.underlying t with
    | none => rw [hi, hd] at h; simp at h
    | some d =>
      rw [hi, hd] at h
      simp only [Bool.and_eq_true, beq_iff_eq] at h
      obtain ⟨⟨_, h5⟩, _⟩ := h
      cases hfs : i.fs with
      | nil => rw [hfs] at hk; simp at hk
      | cons x xs =>
        rw [hfs] at h5
        cases d with
        | struct fields =>
          simp only [fieldsOk, Bool.and_eq_true, beq_iff_eq] at h5
          exact ⟨fields, rfl, h5.1.symm⟩
        | _ => simp at h5

theorem tyOk_bl {P : Program} {t : TypeId} {i : TyI} (h : tyOk P t i = true) (hb : i.bl = true) : P.underlying t = some .bool := by
  replace h := (Bool.and_eq_true _ _ ▸ h : tyOk0 P t i = true ∧ arOk P t i = true).1
  unfold tyOk0 at h
  cases hi : P.info? t with
  | none => rw [hi] at h; simp at h
  | some inf =>
    cases hd : P.underlying t with
    | none => rw [hi, hd] at h; simp at h
    | some d =>
      rw [hi, hd] at h
      simp only [Bool.and_eq_true, beq_iff_eq] at h
      obtain ⟨⟨⟨⟨_, h5⟩, _⟩, _⟩, _⟩ := h
      rw [hb] at h5
      cases d <;> simp_all
theorem tyOk_str {P : Program} {t : TypeId} {i : TyI} (h : tyOk P t i = true) (hb : i.str = true) : P.underlying t = some .string := by
  replace h := (Bool.and_eq_true _ _ ▸ h : tyOk0 P t i = true ∧ arOk P t i = true).1
  unfold tyOk0 at h
  cases hi : P.info? t with
  | none => rw [hi] at h; simp at h
  | some inf =>
    cases hd : P.underlying t with
    | none => rw [hi, hd] at h; simp at h
    | some d =>
      rw [hi, hd] at h
      simp only [Bool.and_eq_true, beq_iff_eq] at h
      obtain ⟨⟨⟨_, h5⟩, _⟩, _⟩ := h
      rw [hb] at h5
      cases d <;> simp_all

/-! ### 2. The abstract state's reading of operands -/
def nth : List AV → Nat → AV
  | [], _ => .any
  | x :: _, 0 => x
  | _ :: l, n + 1 => nth l n
theorem nth_eq (l : List AV) (n : Nat) : nth l n = (l[n]?).getD .any := by
  induction l generalizing n with
  | nil => rfl
  | cons x l ih => cases n <;> simp [nth, ih]
def cAV : Value → AV
  | .bool b => .c (.sc (.bool b))
  | .int k n => .c (.sc (.int k n))
  | .string s => .c (.sc (.string s))
  | .slice none 0 0 => .nil
  | _ => .any
def evA (tm : List AV) : Operand → AV
  | .tmp t => nth tm t
  | .const v => cAV v
  | .func f => .c (.fn f [])
  | .global _ => .any
theorem AR.cAV {Z : Zone} {w : World} {β : Nat → Value} {cr : Nat → Prop} (v : Value) : AR Z w β cr (cAV v) v := by
  unfold Vam.cAV
  split
  · exact .c _ _ (.sc _ rfl)
  · exact .c _ _ (.sc _ rfl)
  · exact .c _ _ (.sc _ rfl)
  · exact .nil
  · exact .any _
theorem CR.fn0 (Z : Zone) (w : World) (g : FuncId) : CR Z w (.fn g []) (.func (.func g) #[] #[]) :=
  .fn g [] [] (fun _ _ => undef) rfl (fun k ad cs e => by simp at e) (fun k cs i c e => by simp at e)
theorem AR.evA {Z : Zone} {w : World} {β : Nat → Value} {cr : Nat → Prop} {tm : List AV} {a : Act} (h : ∀ t x, tm[t]? = some x → AR Z w β cr x (a.tmps.getD t undef)) (x : Operand) : AR Z w β cr (evA tm x) (a.eval x) := by
  cases x with
  | tmp t =>
    simp only [Vam.evA, Act.eval, nth_eq]
    cases ht : tm[t]? with
    | none => exact .any _
    | some x => exact h t x ht
  | const v => exact .cAV v
  | global g => exact .any _
  | func f => exact .c _ _ (.fn0 _ _ _)

/-! ### 3. What an operation does -/
structure Eff where
  res : AV
  nw : Option Bx := none
  kill : List Nat := []
  frz : List Nat := []

inductive Ret where
  | v (x : AV)
  | own (e sz : Nat) (rs : List (List C))

def toC : AV → C
  | .c x => x
  | .nil => .sl []
  | _ => .sc (.bool false)
def isC : AV → Bool
  | .c _ => true
  | .nil => true
  | _ => false
def rowsAt (bx : List Bx) (b : Nat) : Option (Nat × Nat × List (List C)) :=
  match bx[b]? with
  | some (.rows e sz rs) => some (e, sz, rs)
  | _ => none
def cellsAt (bx : List Bx) (b : Nat) : Option (List AV) :=
  match bx[b]? with
  | some (.cells cs) => some cs
  | _ => none
/-- As it is handed to a call: a list of one's own is laid aside. -/
def thaw (bx : List Bx) : AV → AV
  | .own b => match bx[b]? with
    | some (.rows _ _ rs) => .c (.sl rs)
    | _ => .any
  | .nil => .c (.sl [])
  | .ptr _ _ => .any
  | .optr _ _ => .any
  | x => x
def frzOf : AV → List Nat
  | .own b => [b]
  | _ => []

def binI (op : BinOp) (k : IntKind) (a b : Int) : Option Value :=
  match op with
  | .add => some (.int k (k.wrap (a + b)))
  | .sub => some (.int k (k.wrap (a - b)))
  | .mul => some (.int k (k.wrap (a * b)))
  | .eql => some (.bool (a == b))
  | .neq => some (.bool (a != b))
  | .lss => some (.bool (a < b))
  | .leq => some (.bool (a ≤ b))
  | .gtr => some (.bool (a > b))
  | .geq => some (.bool (a ≥ b))
  | _ => none
def binS (op : BinOp) (a b : ByteArray) : Option Value :=
  match op with
  | .eql => some (.bool (a == b))
  | .neq => some (.bool !(a == b))
  | .lss => some (.bool (Op.bytesLess a.toList b.toList))
  | .leq => some (.bool (Op.bytesLess a.toList b.toList || a == b))
  | .gtr => some (.bool !(Op.bytesLess a.toList b.toList || a == b))
  | .geq => some (.bool !(Op.bytesLess a.toList b.toList))
  | _ => none
theorem run_binI {P : Program} {w : World} {op : BinOp} {t : TypeId} {k : IntKind} {a b : Int} {v : Value} (h : binI op k a b = some v) : (binOp op t (.int k a) (.int k b)).run P w = .ok v w := by
  cases op <;> simp only [binI, Option.some.injEq, reduceCtorEq] at h <;> subst h <;> simp [binOp, Op.intArith, Op.intCmp]
theorem run_binS {P : Program} {w : World} {op : BinOp} {t : TypeId} {a b : ByteArray} {v : Value} (h : binS op a b = some v) : (binOp op t (.string a) (.string b)).run P w = .ok v w := by
  cases op <;> simp only [binS, Option.some.injEq, reduceCtorEq] at h <;> subst h <;> simp [binOp, Op.stringOp, beq_toListBytes]

/-! ### 4. One operation is carried out -/
def OpRun (P : Program) (o : Oper) (a : Act) (w : World) (R : Value → World → Prop) : Prop :=
  match (execOp a.eval o).run P w with
  | .ok (.value v) w' => R v w'
  | .ok .skip w' => R undef w'
  | .ok (.enter f args) w' => Calls P f args w' (fun e w'' => ∃ v, e = .returned v ∧ R v w'')
  | .ok (.round l f tmps assign body) w' => RoundIn Fence.wide 0 P l f tmps assign body w' (fun e w'' => ∃ v, e = .returned v ∧ R v w'')
  | _ => False
/-- The fence that asks nothing; in a round of a range over a function, or not. -/
def fenceR (rd : Option Nat) : Fence := { Fence.wide with round := rd }
theorem OpRun.wp {P : Program} {o : Oper} {a : Act} {w : World} {R : Value → World → Prop} (h : OpRun P o a w R) {rd : Option Nat} {K : Act → World → Prop} {Q : Exit → Act → World → Prop} (hk : ∀ v w', R v w' → K (a.put o.dst v) w') : o.wpIn (fenceR rd) 0 P a w K Q := by
  have hnd : ∀ c, o.op ≠ .defer c := fun c hc => by
    unfold OpRun at h
    simp only [execOp, hc, Sem.run_bind] at h
    generalize (resolve a.eval c o.type).run P w = q at h
    cases q with
    | ok d w' => simp [Result.andThen] at h
    | halt x w' => simp [Result.andThen] at h
  unfold Oper.wpIn
  refine ⟨fun _ _ => trivial, ?_⟩
  rw [Oper.semAt_eq _ _ _ hnd]
  unfold OpRun at h
  cases hr : (execOp a.eval o).run P w with
  | ok n w' =>
    rw [hr] at h
    cases n <;> simp only [Oper.uponIn] at h ⊢
    case value v => exact hk _ _ h
    case skip => exact hk _ _ h
    case enter f args =>
      refine ⟨fun h => by simp [fenceR, Fence.wide] at h, ?_⟩
      have : CallsIn Fence.wide 0 P f args w' _ := callsIn_wide.2 h
      exact CallsIn.mono (F := fenceR rd) this fun e w'' ⟨v, he, hR⟩ => by subst he; exact hk _ _ hR
    case round l f tmps assign body =>
      refine ⟨fun h => by simp [fenceR, Fence.wide] at h, ?_⟩
      exact RoundIn.mono (F := fenceR rd) h fun e w'' ⟨v, he, hR⟩ => by subst he; exact hk _ _ hR
  | halt x w' => rw [hr] at h; exact h.elim
theorem OpRun.value {P : Program} {o : Oper} {a : Act} {w w' : World} {R : Value → World → Prop} {v : Value} (h : (execOp a.eval o).run P w = .ok (.value v) w') (hR : R v w') : OpRun P o a w R := by
  unfold OpRun; rw [h]; exact hR

/-- What is so behind an operation. -/
def Post (base : Nat) (w0 : World) (Z : Zone) (β : Nat → Value) (cr lv fz : Nat → Prop) (bx : Nat → Option Bx) (nb : Nat) (e : Eff) (w : World) (v : Value) (w' : World) : Prop :=
  ∃ (Z' : Zone) (β' : Nat → Value), Ext Z Z' w w' ∧ (∀ b, cr b → β' b = β b) ∧ (∀ a, Z' a → ¬ Z a → base ≤ a.block) ∧
    WR base w0 Z' β' (fun b => cr b ∨ (b = nb ∧ e.nw.isSome = true)) (fun b => (lv b ∧ b ∉ e.kill) ∨ (b = nb ∧ e.nw.isSome = true)) (fun b => fz b ∨ b ∈ e.frz) bx w' ∧
    AR Z' w' β' (fun b => cr b ∨ (b = nb ∧ e.nw.isSome = true)) e.res v

theorem WR.mono {base : Nat} {w0 : World} {Z : Zone} {β : Nat → Value} {cr cr' lv lv' fz fz' : Nat → Prop} {bx bx' : Nat → Option Bx} {w : World} (h : WR base w0 Z β cr lv fz bx w)
    (hc : ∀ b, cr b → cr' b) (hl : ∀ b, lv' b → lv b) (hf : ∀ b, fz b → fz' b) (hb : ∀ b, lv' b → bx' b = bx b) : WR base w0 Z β cr' lv' fz' bx' w := by
  refine ⟨h.below, h.hbase, h.zin, h.zsp, fun b hb' => ?_, fun b b' g h1 h2 => h.dis b b' g (hl b h1) (hl b' h2), fun b hb' => hc b (h.sub b (hl b hb')), h.oth⟩
  obtain ⟨x, hx, hB⟩ := h.box b (hl b hb')
  exact ⟨x, (hb b hb').trans hx, hB.ext (Ext.refl Z w) (fun b h => ⟨hc b h, rfl⟩) (h.sub b (hl b hb')) (fun _ _ => rfl) (fun g _ a ha _ => .inl ha) (hf b)⟩

/-- Nothing is laid, nothing is written. -/
theorem Post.quiet {base : Nat} {w0 : World} {Z : Zone} {β : Nat → Value} {cr lv fz : Nat → Prop} {bx : Nat → Option Bx} {nb : Nat} {res : AV} {w w' : World} {v : Value}
    (hW : WR base w0 Z β cr lv fz bx w) (hb : Below w.heap.size w w') (hv : AR Z w β cr res v) : Post base w0 Z β cr lv fz bx nb { res } w v w' := by
  refine ⟨Z, β, ext_of_below hb hW.zin, fun _ _ => rfl, fun a h1 h2 => absurd h1 h2, (hW.still hb).mono (fun b h => .inl h) (fun b h => ?_) (fun b h => .inl h) (fun _ _ => rfl), (hv.still hb hW.zin).ext (Ext.refl _ _) fun b h => ⟨.inl h, rfl⟩⟩
  rcases h with h | h
  · exact h.1
  · simp at h

/-- A box takes the place of others (or none): its block is new, or one of theirs. -/
theorem Post.renew {base : Nat} {w0 : World} {Z : Zone} {β : Nat → Value} {cr lv fz : Nat → Prop} {bx : Nat → Option Bx} {nb : Nat} {res : AV} {w w1 : World} {v u : Value} {x : Bx} {kill frz : List Nat} {row : Option Nat}
    (hW : WR base w0 Z β cr lv fz bx w) (hnb : ¬ cr nb) (hbx : bx nb = some x) (hg : w.grownBy w1 row) (he : Ext Z Z w w1)
    (hrow : ∀ k, row = some k → base ≤ k ∧ (∀ o, w.heap[k]? = some o → o.isCells = true) ∧ ∀ b, lv b → b ∉ kill → blk (β b) ≠ some k)
    (hub : ∀ g, blk u = some g → ∀ b, lv b → b ∉ kill → blk (β b) ≠ some g)
    (hbox : ∀ (β' : Nat → Value) (cr' fz' : Nat → Prop), (∀ b, cr b → cr' b ∧ β' b = β b) → cr' nb → β' nb = u → (nb ∈ frz → fz' nb) → BoxR base Z w1 β' cr' fz' nb x)
    (hres : ∀ (β' : Nat → Value) (cr' : Nat → Prop), (∀ b, cr b → cr' b ∧ β' b = β b) → cr' nb → β' nb = u → AR Z w1 β' cr' res v) :
    Post base w0 Z β cr lv fz bx nb { res, nw := some x, kill, frz } w v w1 := by
  have hb : Below base w w1 := ⟨hg.os, hg.tape, hg.output, hg.size, fun k hk => hg.block k (Nat.lt_of_lt_of_le hk hW.hbase) (fun e => by have := (hrow k e.symm).1; omega)⟩
  let β' : Nat → Value := fun b => if b = nb then u else β b
  have hβ : ∀ b, cr b → β' b = β b := fun b hc => by
    have : b ≠ nb := fun e => hnb (e ▸ hc)
    simp [β', this]
  have hβn : β' nb = u := by simp [β']
  have hcr : ∀ b, cr b → (cr b ∨ (b = nb ∧ (some x).isSome = true)) ∧ β' b = β b := fun b hc => ⟨.inl hc, hβ b hc⟩
  refine ⟨Z, β', he, hβ, fun a h1 h2 => absurd h1 h2, ?_, hres β' _ hcr (.inr ⟨rfl, rfl⟩) hβn⟩
  refine ⟨hW.below.trans hb, Nat.le_trans hW.hbase hb.size, fun a ha => Nat.lt_of_lt_of_le (hW.zin a ha) hb.size, hW.zsp, fun b hl => ?_, fun b b' g h1 h2 hne e1 e2 => ?_, fun b hl => ?_, hW.oth.trans (.of_grownBy hg fun j o hj ho => (hrow j hj).2.1 o ho)⟩
  · rcases hl with ⟨hl, hk⟩ | ⟨rfl, _⟩
    · obtain ⟨y, hy, hB⟩ := hW.box b hl
      refine ⟨y, hy, hB.ext he hcr (hW.sub b hl) (fun g hg' => hg.block g (hB.blk_base hg').2 (fun e => (hrow g e.symm).2.2 b hl hk hg')) (fun g hg' a ha e => .inl ha) (fun h => .inl h)⟩
    · exact ⟨x, hbx, hbox β' _ _ hcr (.inr ⟨rfl, rfl⟩) hβn (fun h => .inr h)⟩
  · rcases h1 with ⟨h1, k1⟩ | ⟨rfl, _⟩ <;> rcases h2 with ⟨h2, k2⟩ | ⟨rfl, _⟩
    · rw [hβ b (hW.sub b h1)] at e1
      rw [hβ b' (hW.sub b' h2)] at e2
      exact hW.dis b b' g h1 h2 hne e1 e2
    · rw [hβ b (hW.sub b h1)] at e1
      rw [hβn] at e2
      exact hub g e2 b h1 k1 e1
    · rw [hβ b' (hW.sub b' h2)] at e2
      rw [hβn] at e1
      exact hub g e1 b' h2 k2 e2
    · exact hne rfl
  · rcases hl with ⟨hl, _⟩ | h
    · exact .inl (hW.sub b hl)
    · exact .inr h
/-- A new block of one's own is laid. -/
theorem Post.alloc {base : Nat} {w0 : World} {Z : Zone} {β : Nat → Value} {cr lv fz : Nat → Prop} {bx : Nat → Option Bx} {nb : Nat} {res : AV} {w w1 : World} {v u : Value} {x : Bx} {kill : List Nat}
    (hW : WR base w0 Z β cr lv fz bx w) (hnb : ¬ cr nb) (hbx : bx nb = some x) (hg : w.grownBy w1 none)
    (hub : ∀ g, blk u = some g → w.heap.size ≤ g)
    (hbox : ∀ (β' : Nat → Value) (cr' fz' : Nat → Prop), (∀ b, cr b → cr' b ∧ β' b = β b) → cr' nb → β' nb = u → BoxR base Z w1 β' cr' fz' nb x)
    (hres : ∀ (β' : Nat → Value) (cr' : Nat → Prop), (∀ b, cr b → cr' b ∧ β' b = β b) → cr' nb → β' nb = u → AR Z w1 β' cr' res v) :
    Post base w0 Z β cr lv fz bx nb { res, nw := some x, kill } w v w1 := by
  refine Post.renew (row := none) (u := u) hW hnb hbx hg (ext_of_grown hg hW.zin (fun a _ => by simp)) (fun k e => by cases e) (fun g h b hl _ e => ?_) (fun β' cr' fz' h1 h2 h3 _ => hbox β' cr' fz' h1 h2 h3) hres
  obtain ⟨y, hy, hB⟩ := hW.box b hl
  have := (hB.blk_base e).2
  have := hub g h
  omega
end Go.Vam
