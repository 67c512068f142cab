/- An abstract machine over data (part 7): one operation, whichever it is. -/
import Derived.Test.YtncipmjchifcgaaVam6x
namespace Go.Vam
open Go.RowKit
set_option linter.unusedVariables false
set_option linter.unusedSimpArgs false

def CallK (P : Program) (g : FuncId) (args : List AV) (K : Ret → Prop) : Prop := ∃ r, Ok P g args r ∧ K r
theorem CallK.mk {P : Program} {g : FuncId} {args : List AV} {K : Ret → Prop} {r : Ret} (h : Ok P g args r) (hk : K r) : CallK P g args K := ⟨r, h, hk⟩

/-- Calls that are no plain ones: slices.Insert, slices.Delete upon a list of one's own; calls that only read. -/
def CallX (P : Program) (bx : Nat → Option Bx) (dead fz : List Nat) (g : FuncId) (caps : List (List C)) (raw : List AV) (nb : Nat) (K : Eff → Prop) : Prop :=
  (∃ e sz bytes b b2 i rs row2, caps = [] ∧ raw = [.own b, .c (.sc (.int .i64 (i : Nat))), .own b2] ∧ InsOk P g e sz bytes ∧ (b ∉ dead ∧ b ∉ fz ∧ b2 ∉ dead ∧ b ≠ b2) ∧ bx b = some (.rows e sz rs) ∧ bx b2 = some (.rows e sz [row2]) ∧
    i ≤ rs.length ∧ (rs.length + 1) * bytes ≤ 140737488355328 ∧ K { res := .own nb, nw := some (.rows e sz (rs.take i ++ [row2] ++ rs.drop i)), kill := [b] }) ∨
  (∃ e sz b i rs, caps = [] ∧ raw = [.own b, .c (.sc (.int .i64 (i : Nat))), .c (.sc (.int .i64 ((i : Nat) + 1)))] ∧ DelOk P g e sz ∧ (b ∉ dead ∧ b ∉ fz) ∧ bx b = some (.rows e sz rs) ∧ i < rs.length ∧
    K { res := .own nb, nw := some (.rows e sz (rs.take i ++ rs.drop (i + 1))), kill := [b] }) ∨
  ((∀ b ∈ raw.flatMap frzOf, b ∉ dead) ∧ ∃ u, isSc u = true ∧ Ok P g (raw.map (thawF bx) ++ caps.map .pt) (.v (.c (.sc u))) ∧ K { res := .c (.sc u) })
def binV (op : BinOp) : AV → AV → Option Value
  | .c (.sc (.int k p)), .c (.sc (.int k' q)) => if k = k' then binI op k p q else none
  | .c (.sc (.string p)), .c (.sc (.string q)) => binS op p q
  | _, _ => none
def binB (op : BinOp) : AV → AV → Option Bool
  | .c (.sc (.bool p)), .c (.sc (.bool q)) => match op with
    | .eql => some (p == q)
    | .neq => some !(p == q)
    | _ => none
  | _, _ => none
def rowLen (n : Nat) (rows : List (List C)) : Prop := ∀ row ∈ rows, row.length = n
def numOf : AV → Option Int
  | .c (.sc (.int _ n)) => some n
  | _ => none
def boundK (ρ : Operand → AV) (d : Int) : Option Operand → (Int → Prop) → Prop
  | none, K => K d
  | some y, K => ∃ n, numOf (ρ y) = some n ∧ K n
def dstK (bx : Nat → Option Bx) (dead : List Nat) (e sz : Nat) : AV → (List (List C) → List Nat → Prop) → Prop
  | .nil, K => K [] []
  | .own b, K => b ∉ dead ∧ match bx b with
    | some (.rows e' sz' rs) => e' = e ∧ sz' = sz ∧ K rs [b]
    | _ => False
  | _, _ => False
def srcK (bx : Nat → Option Bx) (dead : List Nat) (sz : Nat) : AV → (List (List C) → Prop) → Prop
  | .nil, K => K []
  | .c (.sl xs), K => rowLen sz xs ∧ K xs
  | .own b, K => b ∉ dead ∧ match bx b with
    | some (.rows _ sz' xs) => sz' = sz ∧ rowLen sz xs ∧ K xs
    | _ => False
  | _, _ => False

/-- What an operation does: what must be so, and what is told to K. -/
def Locl (P : Program) (tt : TT) (o : Oper) (ρ : Operand → AV) (bx : Nat → Option Bx) (dead fz : List Nat) (nb : Nat) (K : Eff → Prop) : Prop :=
  match o.op with
  | .move x => K { res := ρ x }
  | .assign x => K { res := ρ x }
  | .pick c x y => match ρ c with
    | .c (.sc (.bool t)) => K { res := if t then ρ x else ρ y }
    | _ => False
  | .binOp op t x y _ =>
    match binV op (ρ x) (ρ y) with
    | some v => K { res := .c (.sc v) }
    | none => match binB op (ρ x) (ρ y) with
      | some b => (∃ i, tt t = some i ∧ i.bl = true) ∧ K { res := .c (.sc (.bool b)) }
      | none => False
  | .unOp .not _ x => match ρ x with
    | .c (.sc (.bool p)) => K { res := .c (.sc (.bool (!p))) }
    | _ => False
  | .unOp .neg _ x => match ρ x with
    | .c (.sc (.int k p)) => K { res := .c (.sc (.int k (k.wrap (-p)))) }
    | _ => False
  | .extract x i => match ρ x with
    | .tup xs => ∃ r, xs[i]? = some r ∧ K { res := r }
    | _ => False
  | .field t x f => match ρ x with
    | .agg cs => ∃ i off ty n ag, tt t = some i ∧ i.fs[f]? = some (off, ty, n, ag) ∧ off + n ≤ cs.length ∧ (ag = false → n = 1) ∧ K { res := if ag then .agg ((cs.drop off).take n) else .c (cs.getD off (.sc (.bool false))) }
    | _ => False
  | .fieldAddr t x f => ∃ i off ty n ag, tt t = some i ∧ i.fs[f]? = some (off, ty, n, ag) ∧ match ρ x with
    | .pt cs => K { res := .pt (cs.drop off) }
    | .ptr b o => K { res := .ptr b (o + off) }
    | .optr b o => K { res := .optr b (o + off) }
    | _ => False
  | .indexAddr t x y => (∃ i e sz n ag j b o0, tt t = some i ∧ i.ar = some (e, sz, n, ag) ∧ numOf (ρ y) = some j ∧ 0 ≤ j ∧ j < (n : Nat) ∧ ρ x = .ptr b o0 ∧ K { res := .ptr b (o0 + j.toNat * sz) }) ∨
   (∃ i e ie j, tt t = some i ∧ i.sl = some e ∧ tt e = some ie ∧ numOf (ρ y) = some j ∧ 0 ≤ j ∧ match ρ x with
    | .c (.sl rows) => ∃ row, rows[j.toNat]? = some row ∧ row.length = ie.n ∧ K { res := .pt row }
    | .own b => b ∉ dead ∧ match bx b with
      | some (.rows _ sz rs) => sz = ie.n ∧ j < rs.length ∧ K { res := .optr b (j.toNat * ie.n) }
      | _ => False
    | _ => False)
  | .index t x y => match ρ x with
    | .c (.sc (.string s)) => ∃ i j, tt t = some i ∧ i.str = true ∧ numOf (ρ y) = some j ∧ 0 ≤ j ∧ j < s.size ∧ K { res := .c (.sc (.int .u8 (byteAt s j.toNat))) }
    | .agg cs => ∃ i e sz n ag j, tt t = some i ∧ i.ar = some (e, sz, n, ag) ∧ numOf (ρ y) = some j ∧ 0 ≤ j ∧ j < (n : Nat) ∧ j.toNat * sz + sz ≤ cs.length ∧ (ag = false → sz = 1) ∧
      K { res := if ag then .agg ((cs.drop (j.toNat * sz)).take sz) else .c (cs.getD (j.toNat * sz) (.sc (.bool false))) }
    | _ => False
  | .load t x => ∃ i, tt t = some i ∧ (i.ag = false → i.n = 1) ∧ 0 < i.n ∧ match ρ x with
    | .pt cs => i.n ≤ cs.length ∧ K { res := if i.ag then .agg (cs.take i.n) else .c (cs.getD 0 (.sc (.bool false))) }
    | .ptr b off => b ∉ dead ∧ match bx b with
      | some (.cells cs) => off + i.n ≤ cs.length ∧ (i.ag = true → ((cs.drop off).take i.n).all isC = true) ∧ K { res := if i.ag then .agg (((cs.drop off).take i.n).map toC) else nth cs off }
      | _ => False
    | .optr b off => b ∉ dead ∧ match bx b with
      | some (.rows _ sz rs) => ∃ j row, rs[j]? = some row ∧ j * sz ≤ off ∧ off - j * sz + i.n ≤ row.length ∧ K { res := if i.ag then .agg ((row.drop (off - j * sz)).take i.n) else .c (row.getD (off - j * sz) (.sc (.bool false))) }
      | _ => False
    | _ => False
  | .slice t x lo hi mx => ∃ i e ie, tt t = some i ∧ i.sl = some e ∧ tt e = some ie ∧ match ρ x with
    | .c (.sl rows) => rowLen ie.n rows ∧ boundK ρ 0 lo fun l => boundK ρ rows.length hi fun h => 0 ≤ l ∧ l ≤ h ∧ h ≤ rows.length ∧ (mx.isSome = true → hi.isSome = true) ∧ (boundK ρ h mx fun m => h ≤ m ∧ m ≤ rows.length) ∧
        K { res := .c (.sl ((rows.take h.toNat).drop l.toNat)) }
    | .own b => b ∉ dead ∧ b ∉ fz ∧ lo = none ∧ mx = none ∧ match bx b, hi with
      | some (.rows e' sz rs), some y => e' = e ∧ sz = ie.n ∧ ∃ h, numOf (ρ y) = some h ∧ 0 ≤ h ∧ h ≤ rs.length ∧ K { res := .own nb, nw := some (.rows e sz (rs.take h.toNat)), kill := [b] }
      | _, _ => False
    | _ => False
  | .nilCheck x => match ρ x with
    | .pt cs => K { res := .pt cs }
    | .ptr b off => K { res := .ptr b off }
    | _ => False
  | .alloc t => ∃ i, tt t = some i ∧ i.zero ≠ [] ∧ K { res := .ptr nb 0, nw := some (.cells i.zero) }
  | .box _ x => ∃ cs, stOf bx dead (ρ x) = some cs ∧ K { res := .ptr nb 0, nw := some (.cells cs) }
  | .build t parts => (∃ i e sz n ag f r, tt t = some i ∧ i.zero ≠ [] ∧ i.ar = some (e, sz, n, ag) ∧ fillC (placeA sz) (parts.toList.map fun p => (p.1, ρ p.2)) (zeroO i.zero) = some f ∧ allC f = some r ∧ K { res := .agg r }) ∨ (∃ i f r, tt t = some i ∧ i.zero ≠ [] ∧ i.fs ≠ [] ∧ fillC (placeOf i.fs) (parts.toList.map fun p => (p.1, ρ p.2)) (zeroO i.zero) = some f ∧ allC f = some r ∧ K { res := .agg r })
  | .buildSlice t n parts => ∃ i e ie rs, tt t = some i ∧ i.sl = some e ∧ tt e = some ie ∧ ie.zero ≠ [] ∧ 0 < ie.n ∧ rowsOf ie.n 0 (parts.toList.map fun p => (p.1, ρ p.2)) = some rs ∧ rs.length = n ∧ n * ie.n ≤ 16777216 ∧
      K { res := .own nb, nw := some (.rows e ie.n rs) }
  | .makeFunc (.func g) first captured => first = #[] ∧ ∃ css fs, capsOf bx (captured.toList.map ρ) = some (css, fs) ∧ (∀ b ∈ fs, b ∉ dead) ∧ K { res := .c (.fn g css), frz := fs }
  | .call { callee := .builtin .len, args := as, argTypes := ts } => ∃ x t i, as = #[x] ∧ ts = #[t] ∧ tt t = some i ∧ match ρ x with
    | .c (.sl rows) => i.sl.isSome = true ∧ K { res := .c (.sc (.int .i64 rows.length)) }
    | .nil => i.sl.isSome = true ∧ K { res := .c (.sc (.int .i64 0)) }
    | .own b => i.sl.isSome = true ∧ b ∉ dead ∧ match bx b with
      | some (.rows _ _ rs) => K { res := .c (.sc (.int .i64 rs.length)) }
      | _ => False
    | .c (.sc (.string s)) => i.str = true ∧ K { res := .c (.sc (.int .i64 s.size)) }
    | _ => False
  | .call { callee := .builtin .append, args := as, argTypes := ts } => ∃ x y t t' it it' e e' ie, as = #[x, y] ∧ ts = #[t, t'] ∧ tt t = some it ∧ it.sl = some e ∧ tt t' = some it' ∧ it'.sl = some e' ∧ tt e = some ie ∧ ie.zero ≠ [] ∧ 0 < ie.bytes ∧ 0 < ie.n ∧
      dstK bx dead e ie.n (ρ x) fun rs kill => srcK bx dead ie.n (ρ y) fun xs => (rs.length + xs.length) * ie.bytes ≤ 140737488355328 ∧
        K { res := .own nb, nw := some (.rows e ie.n (rs ++ xs)), kill, frz := if (kill.any fun b => fz.contains b) then [nb] else [] }
  | .call { callee := .value fo, args := as, argTypes := _ } => match ρ fo with
    | .c (.fn g caps) => ((∀ b ∈ as.toList.flatMap (fun x => frzOf (ρ x)), b ∉ dead) ∧ CallK P g ((as.toList.map fun x => thawF bx (ρ x)) ++ caps.map .pt) fun r => match r with
      | .v x => K { res := x, frz := as.toList.flatMap fun x => frzOf (ρ x) }
      | .own e sz rs => K { res := .own nb, nw := some (.rows e sz rs), frz := as.toList.flatMap fun x => frzOf (ρ x) }) ∨
      CallX P bx dead fz g caps (as.toList.map ρ) nb K
    | _ => False
  | _ => False

/-- Names of boxes, one set anew. -/
def upd (bx : Nat → Option Bx) (nb : Nat) (x : Option Bx) : Nat → Option Bx := fun b => if b = nb then x else bx b
/-- Operations that look into a box; those that must know that it has not been laid aside. -/
def needU : Op → Bool
  | .indexAddr _ _ _ => true
  | .load _ _ => true
  | .box _ _ => true
  | .slice _ _ _ _ _ => true
  | .makeFunc _ _ _ => true
  | .call _ => true
  | _ => false
def needF : Op → Bool
  | .slice _ _ _ _ _ => true
  | .call { callee := .builtin .append, args := _, argTypes := _ } => true
  | .call { callee := .value _, args := _, argTypes := _ } => true
  | _ => false
def usesOf : AV → List Nat
  | .own b => [b]
  | .ptr b _ => [b]
  | .optr b _ => [b]
  | _ => []

section
variable {P : Program} {tt : TT} {base : Nat} {w0 : World} {Z : Zone} {β : Nat → Value} {cr lv fz : Nat → Prop} {bx : Nat → Option Bx} {nb : Nat} {w : World} {a : Act} {o : Oper} {ρ : Operand → AV} {deadl fzl : List Nat}

theorem AR.num {x : AV} {n : Int} {v : Value} (h : AR Z w β cr x v) (hn : numOf x = some n) : ∃ k, v = .int k n ∧ x = .c (.sc (.int k n)) := by
  unfold numOf at hn
  split at hn
  · simp only [Option.some.injEq] at hn
    subst hn
    exact ⟨_, h.sc_inv.1, rfl⟩
  · simp at hn
theorem numOf_eq {x : AV} {n : Int} (hn : numOf x = some n) : ∃ k, x = .c (.sc (.int k n)) := by
  unfold numOf at hn
  split at hn
  · simp only [Option.some.injEq] at hn
    subst hn
    exact ⟨_, rfl⟩
  · simp at hn

set_option maxHeartbeats 1000000 in
theorem loc_sound (hT : TOk P tt) {e : Eff} {bxR : Nat → Option Bx} (h : Locl P tt o ρ bxR deadl fzl nb (fun e' => e' = e)) (hW : WR base w0 Z β cr lv fz bx w) (hA : ∀ x ∈ o.op.operands, AR Z w β cr (ρ x) (a.eval x))
    (hbn : ∀ y, e.nw = some y → ¬ cr nb ∧ ¬ fz nb ∧ bx nb = some y)
    (hus : needU o.op = true → ∀ x ∈ o.op.operands, ∀ b ∈ usesOf (ρ x), cr b → bx b = bxR b ∧ (b ∉ deadl → lv b) ∧ (needF o.op = true → fz b → b ∈ fzl)) :
    (∀ b ∈ e.frz, cr b ∨ (b = nb ∧ e.nw.isSome = true)) ∧ (∀ b ∈ e.kill, cr b) ∧ OpRun P o a w (Post base w0 Z β cr lv fz bx nb e w) := by
  have crown : ∀ {b : Nat} {v : Value}, AR Z w β cr (.own b) v → cr b := fun h => by cases h; assumption
  have crptr : ∀ {b off : Nat} {v : Value}, AR Z w β cr (.ptr b off) v → cr b := fun h => by cases h; assumption
  have croptr : ∀ {b off : Nat} {v : Value}, AR Z w β cr (.optr b off) v → cr b := fun h => by cases h; assumption
  unfold Locl at h
  cases hop : o.op with
  | move x =>
    rw [hop] at h hA
    subst h; exact ⟨by simp, by simp, op_move (.inl hop) hW (hA x (by simp [Op.operands]))⟩
  | assign x =>
    rw [hop] at h hA
    subst h; exact ⟨by simp, by simp, op_move (.inr hop) hW (hA x (by simp [Op.operands]))⟩
  | pick c x y =>
    rw [hop] at h hA
    have hc := hA c (by simp [Op.operands])
    have hx := hA x (by simp [Op.operands])
    have hy := hA y (by simp [Op.operands])
    simp only at h
    split at h
    · rename_i t hρ
      rw [hρ] at hc
      subst h; exact ⟨by simp, by simp, op_pick hop hW hc hx hy⟩
    · exact h.elim
  | binOp op t x y u =>
    rw [hop] at h hA
    have hx := hA x (by simp [Op.operands])
    have hy := hA y (by simp [Op.operands])
    simp only at h
    split at h
    · rename_i v hv
      unfold binV at hv
      split at hv
      · rename_i k p k' q e1 e2
        split at hv
        · rename_i hk
          subst hk
          rw [e1] at hx
          rw [e2] at hy
          subst h; exact ⟨by simp, by simp, op_bin hop hW hx hy hv⟩
        · simp at hv
      · rename_i p q e1 e2
        rw [e1] at hx
        rw [e2] at hy
        subst h; exact ⟨by simp, by simp, op_binS hop hW hx hy hv⟩
      · simp at hv
    · split at h
      · rename_i b hb
        obtain ⟨⟨i, hi, hbl⟩, hK⟩ := h
        have hu := tyOk_bl (hT t i hi) hbl
        unfold binB at hb
        split at hb
        · rename_i p q e1 e2
          rw [e1] at hx
          rw [e2] at hy
          split at hb
          · simp only [Option.some.injEq] at hb
            subst hb
            subst hK; exact ⟨by simp, by simp, op_binB (neg := false) hop hu hW hx hy⟩
          · simp only [Option.some.injEq] at hb
            subst hb
            subst hK; exact ⟨by simp, by simp, op_binB (neg := true) hop hu hW hx hy⟩
          · simp at hb
        · simp at hb
      · exact h.elim
  | unOp op t x =>
    rw [hop] at h hA
    have hx := hA x (by simp [Op.operands])
    cases op <;> simp only at h
    case not =>
      split at h
      · rename_i p e1
        rw [e1] at hx
        subst h; exact ⟨by simp, by simp, op_not hop hW hx⟩
      · exact h.elim
    case neg =>
      split at h
      · rename_i k p e1
        rw [e1] at hx
        subst h; exact ⟨by simp, by simp, op_neg hop hW hx⟩
      · exact h.elim
  | extract x i =>
    rw [hop] at h hA
    have hx := hA x (by simp [Op.operands])
    simp only at h
    split at h
    · rename_i xs e1
      rw [e1] at hx
      obtain ⟨r, hr, hK⟩ := h
      subst hK; exact ⟨by simp, by simp, op_extract hop hW hx hr⟩
    · exact h.elim
  | field t x f =>
    rw [hop] at h hA
    have hx := hA x (by simp [Op.operands])
    simp only at h
    split at h
    · rename_i cs e1
      rw [e1] at hx
      obtain ⟨i, off, ty, n, ag, hi, hf, hl, h1, hK⟩ := h
      subst hK; exact ⟨by simp, by simp, op_field hop (hT t i hi) hf hW hx hl h1⟩
    · exact h.elim
  | fieldAddr t x f =>
    rw [hop] at h hA
    have hx := hA x (by simp [Op.operands])
    obtain ⟨i, off, ty, n, ag, hi, hf, h⟩ := h
    split at h
    · rename_i cs e1
      rw [e1] at hx
      subst h; exact ⟨by simp, by simp, op_fieldPt hop (hT t i hi) hf hW hx⟩
    · rename_i b o0 e1
      rw [e1] at hx
      subst h; exact ⟨by simp, by simp, op_fieldPtr hop (hT t i hi) hf hW hx⟩
    · rename_i b o0 e1
      rw [e1] at hx
      subst h; exact ⟨by simp, by simp, op_fieldOptr hop (hT t i hi) hf hW hx⟩
    · exact h.elim
  | indexAddr t x y =>
    rw [hop] at h hA
    have hx := hA x (by simp [Op.operands])
    have hy := hA y (by simp [Op.operands])
    rcases h with ⟨i, e, sz, n, ag, j, b, o0, hi, har, hj, h0, hlt, e1, hK⟩ | h
    · obtain ⟨k, hk⟩ := numOf_eq hj
      rw [hk] at hy
      rw [e1] at hx
      subst hK; exact ⟨by simp, by simp, op_indexAddrA hop (hT t i hi) har hW hx hy h0 hlt⟩
    obtain ⟨i, e, ie, j, hi, hsl, hie, hj, h0, h⟩ := h
    obtain ⟨k, hk⟩ := numOf_eq hj
    rw [hk] at hy
    split at h
    · rename_i rows e1
      rw [e1] at hx
      obtain ⟨row, hr, hl, hK⟩ := h
      subst hK; exact ⟨by simp, by simp, op_indexSl hop (hT t i hi) hsl (hT e ie hie) hW hx hy h0 hr hl⟩
    · rename_i b e1
      rw [e1] at hx
      obtain ⟨hd, h⟩ := h
      have hcb := crown hx
      split at h
      · rename_i e' sz rs hbx
        obtain ⟨rfl, hlt, hK⟩ := h
        obtain ⟨u1, u2, u3⟩ := hus (by rw [hop]; rfl) x (by rw [hop]; simp [Op.operands]) b (by rw [e1]; simp [usesOf]) hcb
        subst hK; exact ⟨by simp, by simp, op_indexOwn hop (hT t i hi) hsl (hT e ie hie) hW hx (u2 hd) (u1.trans hbx) hy h0 hlt⟩
      · exact h.elim
    · exact h.elim
  | index t x y =>
    rw [hop] at h hA
    have hx := hA x (by simp [Op.operands])
    have hy := hA y (by simp [Op.operands])
    simp only at h
    split at h
    · rename_i s e1
      rw [e1] at hx
      obtain ⟨i, j, hi, hst, hj, h0, hlt, hK⟩ := h
      obtain ⟨k, hk⟩ := numOf_eq hj
      rw [hk] at hy
      subst hK; exact ⟨by simp, by simp, op_indexStr hop (tyOk_str (hT t i hi) hst) hW hx hy h0 hlt⟩
    · rename_i cs e1
      rw [e1] at hx
      obtain ⟨i, e, sz, n, ag, j, hi, har, hj, h0, hlt, hl, h1, hK⟩ := h
      obtain ⟨k, hk⟩ := numOf_eq hj
      rw [hk] at hy
      subst hK; exact ⟨by simp, by simp, op_indexA hop (hT t i hi) har hW hx hy h0 hlt hl h1⟩
    · exact h.elim
  | load t x =>
    rw [hop] at h hA
    have hx := hA x (by simp [Op.operands])
    obtain ⟨i, hi, h1, hn0, h⟩ := h
    split at h
    · rename_i cs e1
      rw [e1] at hx
      obtain ⟨hl, hK⟩ := h
      subst hK; exact ⟨by simp, by simp, op_loadPt hop (hT t i hi) h1 hl hW hx⟩
    · rename_i b off e1
      rw [e1] at hx
      obtain ⟨hd, h⟩ := h
      have hcb := crptr hx
      split at h
      · rename_i cs hbx
        obtain ⟨hl, hC, hK⟩ := h
        obtain ⟨u1, u2, u3⟩ := hus (by rw [hop]; rfl) x (by rw [hop]; simp [Op.operands]) b (by rw [e1]; simp [usesOf]) hcb
        subst hK; exact ⟨by simp, by simp, op_loadPtr hop (hT t i hi) h1 hl hn0 hC hW hx (u2 hd) (u1.trans hbx)⟩
      · exact h.elim
    · rename_i b off e1
      rw [e1] at hx
      obtain ⟨hd, h⟩ := h
      have hcb := croptr hx
      split at h
      · rename_i e' sz rs hbx
        obtain ⟨j, row, hr, hj, hl, hK⟩ := h
        obtain ⟨u1, u2, u3⟩ := hus (by rw [hop]; rfl) x (by rw [hop]; simp [Op.operands]) b (by rw [e1]; simp [usesOf]) hcb
        subst hK; exact ⟨by simp, by simp, op_loadOptr hop (hT t i hi) h1 hn0 hW hx (u2 hd) (u1.trans hbx) hr hj hl⟩
      · exact h.elim
    · exact h.elim
  | slice t x lo hi mx =>
    rw [hop] at h hA
    have hx := hA x (by simp [Op.operands])
    obtain ⟨i, e, ie, hi', hsl, hie, h⟩ := h
    split at h
    · rename_i rows e1
      rw [e1] at hx
      obtain ⟨hrl, h⟩ := h
      have hbound : ∀ (d : Int) (ob : Option Operand) (K : Int → Prop), (∀ y, ob = some y → y ∈ (Op.slice t x lo hi mx).operands) → boundK ρ d ob K → ∃ n, K n ∧ (ob = none → n = d) ∧ ∀ y, ob = some y → ∃ k : IntKind, AR Z w β cr (.c (.sc (.int k n))) (a.eval y) := fun d ob K hm hb => by
        cases ob with
        | none => exact ⟨d, hb, fun _ => rfl, fun y h => by cases h⟩
        | some y =>
          obtain ⟨n, hn, hK⟩ := hb
          obtain ⟨k, hk⟩ := numOf_eq hn
          refine ⟨n, hK, (fun h => by cases h), fun y' hy' => ?_⟩
          injection hy' with hy'
          subst hy'
          have := hA y (hm y rfl)
          rw [hk] at this
          exact ⟨k, this⟩
      obtain ⟨l, h, hl0, hl1⟩ := hbound 0 lo _ (fun y hy => by subst hy; simp [Op.operands]) h
      obtain ⟨hh, h, hh0, hh1⟩ := hbound rows.length hi _ (fun y hy => by subst hy; simp [Op.operands]) h
      obtain ⟨c1, c2, c3, c4, c5, hK⟩ := h
      obtain ⟨m, ⟨m1, m2⟩, _, hm1⟩ := hbound hh mx _ (fun y hy => by subst hy; simp [Op.operands]) c5
      subst hK
      refine ⟨by simp, by simp, op_sliceSl (lo := l.toNat) (hi := hh.toNat) hop (hT t i hi') hsl (hT e ie hie) hW hx hrl ?_ ?_ ?_ (by omega) (by omega)⟩
      · cases lo with
        | none => have := hl0 rfl; simp only [BoundR]; omega
        | some y =>
          obtain ⟨k, hk⟩ := hl1 y rfl
          refine ⟨k, ?_⟩
          rwa [Int.toNat_of_nonneg c1]
      · cases hi with
        | none => have := hh0 rfl; simp only [BoundR]; omega
        | some y =>
          obtain ⟨k, hk⟩ := hh1 y rfl
          refine ⟨k, ?_⟩
          rwa [Int.toNat_of_nonneg (by omega)]
      · intro y hy
        obtain ⟨k, hk⟩ := hm1 y hy
        refine ⟨c4 (by rw [hy]; rfl), k, m.toNat, ?_, by omega, by omega⟩
        rwa [Int.toNat_of_nonneg (by omega)]
    · rename_i b e1
      rw [e1] at hx
      obtain ⟨hd, hf, hlo, hmx, h⟩ := h
      subst hlo; subst hmx
      have hcb := crown hx
      split at h
      · rename_i e' sz rs y hbx
        obtain ⟨he', hsz, hh, hn, h0, hle, hK⟩ := h
        subst he'; subst hsz
        obtain ⟨k, hk⟩ := numOf_eq hn
        have hy := hA y (by simp [Op.operands])
        rw [hk] at hy
        obtain ⟨u1, u2, u3⟩ := hus (by rw [hop]; rfl) x (by rw [hop]; simp [Op.operands]) b (by rw [e1]; simp [usesOf]) hcb
        subst hK
        refine ⟨by simp, by simpa using hcb, op_cut (hi := hh.toNat) (k := k) hop (hT t i hi') hsl (hT e' ie hie) hW (hbn _ rfl).1 (hbn _ rfl).2.2 hx (u2 hd) (u1.trans hbx) (fun hfb => hf (u3 (by rw [hop]; rfl) hfb)) ?_ (by omega)⟩
        rwa [Int.toNat_of_nonneg h0]
      · exact h.elim
    · exact h.elim
  | nilCheck x =>
    rw [hop] at h hA
    have hx := hA x (by simp [Op.operands])
    simp only at h
    split at h
    · rename_i cs e1
      rw [e1] at hx
      subst h; exact ⟨by simp, by simp, op_nilCheck hop hW hx (.inl ⟨_, rfl⟩)⟩
    · rename_i b off e1
      rw [e1] at hx
      subst h; exact ⟨by simp, by simp, op_nilCheck hop hW hx (.inr ⟨_, _, rfl⟩)⟩
    · exact h.elim
  | alloc t =>
    rw [hop] at h
    obtain ⟨i, hi, hz, hK⟩ := h
    subst hK; exact ⟨by simp, by simp, op_alloc hop (hT t i hi) hz hW (hbn _ rfl).1 (hbn _ rfl).2.2⟩
  | box t x =>
    rw [hop] at h hA
    have hx := hA x (by simp [Op.operands])
    obtain ⟨cs, hc, hK⟩ := h
    subst hK; exact ⟨by simp, by simp, op_box hop hW hx hc (fun b hb hcb hd => by
      obtain ⟨u1, u2, u3⟩ := hus (by rw [hop]; rfl) x (by rw [hop]; simp [Op.operands]) b (by rw [hb]; simp [usesOf]) hcb
      exact ⟨u2 hd, u1⟩) (hbn _ rfl).1 (hbn _ rfl).2.2⟩
  | build t parts =>
    rw [hop] at h hA
    rcases h with ⟨i, e, sz, n, ag, f, r, hi, hz, har, hf, hr, hK⟩ | h
    · subst hK
      refine ⟨by simp, by simp, op_buildA hop (hT t i hi) hz har hW (fun p hp => hA p.2 ?_) hf hr⟩
      simp only [Op.operands, List.mem_toArray, List.mem_map, Array.mem_toList_iff]
      exact ⟨p, hp, rfl⟩
    obtain ⟨i, f, r, hi, hz, hfs, hf, hr, hK⟩ := h
    subst hK
    refine ⟨by simp, by simp, op_build hop (hT t i hi) hz hfs hW (fun p hp => hA p.2 ?_) hf hr⟩
    simp only [Op.operands, List.mem_toArray, List.mem_map, Array.mem_toList_iff]
    exact ⟨p, hp, rfl⟩
  | buildSlice t n parts =>
    rw [hop] at h hA
    obtain ⟨i, e, ie, rs, hi, hsl, hie, hz, hn0, hr, hn, hsm, hK⟩ := h
    subst hK
    refine ⟨by simp, by simp, op_buildSlice hop (hT t i hi) hsl (hT e ie hie) hz hW (hbn _ rfl).1 (hbn _ rfl).2.2 (fun p hp => hA p.2 ?_) hr hn hsm hn0⟩
    simp only [Op.operands, List.mem_toArray, List.mem_map, Array.mem_toList_iff]
    exact ⟨p, hp, rfl⟩
  | makeFunc fn first captured =>
    rw [hop] at h hA
    cases fn with
    | func g =>
      simp only at h
      obtain ⟨rfl, css, fs, hc, hd, hK⟩ := h
      have hAc : ∀ x ∈ captured, AR Z w β cr (ρ x) (a.eval x) := fun x hx => hA x (by simp [Op.operands, hx])
      have hcb : ∀ (l : List AV) (css : List (List C)) (fs : List Nat), capsOf bxR l = some (css, fs) → ∀ b ∈ fs, AV.ptr b 0 ∈ l := fun l => by
        induction l with
        | nil =>
          intro css fs h b hb
          simp only [capsOf, Option.some.injEq, Prod.mk.injEq] at h
          obtain ⟨rfl, rfl⟩ := h
          simp at hb
        | cons x l ih =>
          intro css fs h b hb
          simp only [capsOf] at h
          cases h1 : capOf bxR x with
          | none => rw [h1] at h; simp at h
          | some p =>
            cases h2 : capsOf bxR l with
            | none => rw [h1, h2] at h; simp at h
            | some q =>
              rw [h1, h2] at h
              simp only [Option.some.injEq, Prod.mk.injEq] at h
              obtain ⟨_, rfl⟩ := h
              rcases List.mem_append.1 hb with hb | hb
              · cases x <;> simp only [capOf, reduceCtorEq] at h1
                case ptr b' off =>
                  cases off with
                  | succ k => simp [capOf] at h1
                  | zero =>
                    simp only [capOf] at h1
                    split at h1
                    · split at h1
                      · simp only [Option.some.injEq] at h1
                        subst h1
                        simp only [List.mem_singleton] at hb
                        subst hb
                        exact List.mem_cons_self
                      · simp at h1
                    · simp at h1
                case pt cs =>
                  simp only [Option.some.injEq] at h1
                  subst h1
                  simp at hb
              · exact List.mem_cons_of_mem _ (ih _ _ h2 b hb)
      have hcr : ∀ b ∈ fs, cr b := fun b hb => by
        have hm := hcb _ _ _ hc b hb
        obtain ⟨x, hx, he⟩ := List.mem_map.1 hm
        have := hAc x (by simpa using hx)
        rw [he] at this
        exact crptr this
      have hcaps : ∀ (l : List AV), (∀ b, AV.ptr b 0 ∈ l → bx b = bxR b) → capsOf bx l = capsOf bxR l := fun l => by
        induction l with
        | nil => intro _; rfl
        | cons x l ih =>
          intro hl
          simp only [capsOf]
          rw [ih (fun b hb => hl b (List.mem_cons_of_mem _ hb))]
          have : capOf bx x = capOf bxR x := by
            cases x <;> try rfl
            case ptr b off =>
              cases off with
              | succ k => rfl
              | zero => simp only [capOf]; rw [hl b (by simp)]
          rw [this]
      have hptr : ∀ b, AV.ptr b 0 ∈ captured.toList.map ρ → bx b = bxR b ∧ (b ∉ deadl → lv b) ∧ (needF o.op = true → fz b → b ∈ fzl) := fun b hm => by
        obtain ⟨x, hx, he⟩ := List.mem_map.1 hm
        have hx' : x ∈ captured := by simpa using hx
        have := hAc x hx'
        rw [he] at this
        exact hus (by rw [hop]; rfl) x (by rw [hop]; simp [Op.operands, hx']) b (by rw [he]; simp [usesOf]) (crptr this)
      subst hK
      exact ⟨fun b hb => .inl (hcr b hb), by simp, op_makeFunc (ρ := ρ) hop hW hAc (by rw [hcaps _ (fun b h => (hptr b h).1)]; exact hc) (fun b hb => (hptr b (hcb _ _ _ hc b hb)).2.1 (hd b hb))⟩
    | _ => exact h.elim
  | call c =>
    rw [hop] at h hA
    obtain ⟨callee, as, ts⟩ := c
    cases callee with
    | builtin bi =>
      cases bi <;> simp only at h
      case len =>
        obtain ⟨x, t, i, rfl, rfl, hi, h⟩ := h
        have hx := hA x (by simp [Op.operands, Call.operands])
        have hti := hT t i hi
        split at h
        · rename_i rows e1
          rw [e1] at hx
          obtain ⟨hs, hK⟩ := h
          obtain ⟨e, he⟩ := Option.isSome_iff_exists.1 hs
          subst hK; exact ⟨by simp, by simp, op_lenSl hop hti he hW hx⟩
        · rename_i e1
          rw [e1] at hx
          obtain ⟨hs, hK⟩ := h
          obtain ⟨e, he⟩ := Option.isSome_iff_exists.1 hs
          subst hK; exact ⟨by simp, by simp, op_lenNil hop hti he hW hx⟩
        · rename_i b e1
          rw [e1] at hx
          obtain ⟨hs, hd, h⟩ := h
          obtain ⟨e, he⟩ := Option.isSome_iff_exists.1 hs
          have hcb := crown hx
          split at h
          · rename_i e' sz rs hbx
            obtain ⟨u1, u2, u3⟩ := hus (by rw [hop]; rfl) x (by rw [hop]; simp [Op.operands, Call.operands]) b (by rw [e1]; simp [usesOf]) hcb
            subst h; exact ⟨by simp, by simp, op_lenOwn hop hti he hW hx (u2 hd) (u1.trans hbx)⟩
          · exact h.elim
        · rename_i s e1
          rw [e1] at hx
          obtain ⟨hs, hK⟩ := h
          subst hK; exact ⟨by simp, by simp, op_lenStr hop (tyOk_str hti hs) hW hx⟩
        · exact h.elim
      case append =>
        obtain ⟨x, y, t, t', it, it', e, e', ie, rfl, rfl, hi, hsl, hi', hsl', hie, hz, hby, hn0, h⟩ := h
        have hx := hA x (by simp [Op.operands, Call.operands])
        have hy := hA y (by simp [Op.operands, Call.operands])
        have hdst : ∀ (K : List (List C) → List Nat → Prop), dstK bxR deadl e ie.n (ρ x) K → ∃ rs kill, K rs kill ∧ (∀ b ∈ kill, cr b ∧ (fz b → b ∈ fzl)) ∧ Dst lv bx e ie.n rs kill (ρ x) := fun K hk => by
          cases hρ : ρ x <;> rw [hρ] at hk hx <;> simp only [dstK] at hk
          case nil => exact ⟨_, _, hk, by simp, .inl ⟨rfl, rfl, rfl⟩⟩
          case own b =>
            have hcb := crown hx
            obtain ⟨hd, hk⟩ := hk
            obtain ⟨u1, u2, u3⟩ := hus (by rw [hop]; rfl) x (by rw [hop]; simp [Op.operands, Call.operands]) b (by rw [hρ]; simp [usesOf]) hcb
            split at hk
            · rename_i e'' sz' rs hbx
              obtain ⟨rfl, rfl, hk⟩ := hk
              exact ⟨_, _, hk, by simpa using ⟨hcb, u3 (by rw [hop]; rfl)⟩, .inr ⟨b, rfl, rfl, u2 hd, u1.trans hbx⟩⟩
            · exact hk.elim
        obtain ⟨rs, kill, h, hkc, hD⟩ := hdst _ h
        have hsrc : ∀ (K : List (List C) → Prop), srcK bxR deadl ie.n (ρ y) K → ∃ xs, K xs ∧ Src Z w ie.n xs (a.eval y) ∧ rowLen ie.n xs := fun K hk => by
          cases hρ : ρ y <;> rw [hρ] at hk hy
          case nil =>
            simp only [srcK] at hk
            exact ⟨_, hk, .nil hy, by simp [rowLen]⟩
          case c x =>
            cases x <;> simp only [srcK] at hk
            case sl xs => exact ⟨_, hk.2, .sl hy.sl_inv hk.1 hn0, hk.1⟩
          case own b =>
            simp only [srcK] at hk
            have hcb := crown hy
            obtain ⟨hd, hk⟩ := hk
            obtain ⟨u1, u2, u3⟩ := hus (by rw [hop]; rfl) y (by rw [hop]; simp [Op.operands, Call.operands]) b (by rw [hρ]; simp [usesOf]) hcb
            split at hk
            · rename_i e'' sz' xs hbx
              obtain ⟨rfl, hrl, hk⟩ := hk
              exact ⟨_, hk, .own hW hy (u2 hd) (u1.trans hbx), hrl⟩
            · exact hk.elim
          all_goals (simp only [srcK] at hk)
        obtain ⟨xs, ⟨hbytes, hK⟩, hS, hrl⟩ := hsrc _ h
        subst hK
        refine ⟨fun b hb => ?_, fun b hb => (hkc b hb).1, op_append (fr := kill.any fun b => fzl.contains b) hop (hT t it hi) hsl (hT t' it' hi') hsl' (hT e ie hie) hz hby hW (hbn _ rfl).1 (hbn _ rfl).2.2 hx hD hS hrl hbytes (fun b hb hfb => ?_)⟩
        · simp only at hb
          split at hb
          · simp only [List.mem_singleton] at hb
            exact .inr ⟨hb, rfl⟩
          · simp at hb
        · rw [List.any_eq_true]
          exact ⟨b, hb, by simpa using (hkc b hb).2 hfb⟩
    | value fo =>
      simp only at h
      split at h
      · rename_i g caps e1
        have hfo := hA fo (by simp [Op.operands, Call.operands])
        rw [e1] at hfo
        have hAs : ∀ x ∈ as, AR Z w β cr (ρ x) (a.eval x) := fun x hx => hA x (by simp [Op.operands, Call.operands, hx])
        have hof : ∀ x ∈ as, ∀ b ∈ frzOf (ρ x), cr b ∧ bx b = bxR b ∧ (b ∉ deadl → lv b) ∧ (fz b → b ∈ fzl) := fun x hx b hb => by
          have := hAs x hx
          cases hρ : ρ x <;> rw [hρ] at hb this <;> simp [frzOf] at hb
          subst hb
          have h3 := hus (by rw [hop]; rfl) x (by rw [hop]; simp [Op.operands, Call.operands, hx]) _ (by rw [hρ]; simp [usesOf]) (crown this)
          exact ⟨crown this, h3.1, h3.2.1, h3.2.2 (by rw [hop]; rfl)⟩
        have hth : (as.toList.map fun x => thawF bx (ρ x)) = as.toList.map fun x => thawF bxR (ρ x) := by
          refine List.map_congr_left fun x hx => ?_
          cases hρ : ρ x <;> try rfl
          rename_i b
          simp only [thawF]
          rw [(hof x (by simpa using hx) b (by rw [hρ]; simp [frzOf])).2.1]
        rcases h with h | h
        · obtain ⟨hd, r, hok, hK⟩ := h
          have hl : ∀ x ∈ as, ∀ b ∈ frzOf (ρ x), lv b := fun x hx b hb => (hof x hx b hb).2.2.1 (hd b (List.mem_flatMap.2 ⟨x, by simpa using hx, hb⟩))
          have hfc : ∀ b ∈ as.toList.flatMap (fun x => frzOf (ρ x)), cr b := fun b hb => by
            obtain ⟨x, hx, hb⟩ := List.mem_flatMap.1 hb
            exact (hof x (by simpa using hx) b hb).1
          cases r with
          | v x =>
            simp only at hK
            subst hK
            refine ⟨fun b hb => .inl (hfc b hb), by simp, ?_⟩
            exact op_call (ρ := ρ) (r := .v x) hop hW hfo hAs hl (by rw [hth]; exact hok) (fun e sz rs h => by cases h)
          | own e sz rs =>
            simp only at hK
            subst hK
            refine ⟨fun b hb => .inl (hfc b hb), by simp, ?_⟩
            exact op_call (ρ := ρ) (r := .own e sz rs) hop hW hfo hAs hl (by rw [hth]; exact hok) (fun e' sz' rs' h => by cases h; exact hbn _ rfl)
        · rcases h with ⟨e', sz, bytes, b, b2, i, rs, row2, rfl, hraw, hI, ⟨d1, d2, d3, d4⟩, hb, hb2, hi, hby, hK⟩ | ⟨e', sz, b, i, rs, rfl, hraw, hI, ⟨d1, d2⟩, hb, hi, hK⟩ | ⟨hd, u, hu, hok, hK⟩
          · subst hK
            obtain ⟨x, y, z, rfl, hx, hy, hz⟩ := mapThree hraw
            have ax := hAs x (by simp)
            have ay := hAs y (by simp)
            have az := hAs z (by simp)
            obtain ⟨c1, c2, c3, c4⟩ := hof x (by simp) b (by rw [hx]; simp [frzOf])
            obtain ⟨g1, g2, g3, g4⟩ := hof z (by simp) b2 (by rw [hz]; simp [frzOf])
            rw [hx] at ax
            rw [hy] at ay
            rw [hz] at az
            exact ⟨by simp, fun b' h => by rw [List.mem_singleton] at h; subst h; exact c1, op_ins hop hI hW hfo ax ay az (c3 d1) (fun h => d2 (c4 h)) (by rw [c2]; exact hb) (g3 d3) (by rw [g2]; exact hb2) d4 hi hby (hbn _ rfl).1 (hbn _ rfl).2.2⟩
          · subst hK
            obtain ⟨x, y, z, rfl, hx, hy, hz⟩ := mapThree hraw
            have ax := hAs x (by simp)
            have ay := hAs y (by simp)
            have az := hAs z (by simp)
            obtain ⟨c1, c2, c3, c4⟩ := hof x (by simp) b (by rw [hx]; simp [frzOf])
            rw [hx] at ax
            rw [hy] at ay
            rw [hz] at az
            exact ⟨by simp, fun b' h => by rw [List.mem_singleton] at h; subst h; exact c1, op_del hop hI hW hfo ax ay az (c3 d1) (fun h => d2 (c4 h)) (by rw [c2]; exact hb) hi (hbn _ rfl).1 (hbn _ rfl).2.2⟩
          · subst hK
            refine ⟨by simp, by simp, op_rd (ρ := ρ) hop hu hW hfo hAs (fun x hx b hb => (hof x hx b hb).2.2.1 (hd b ?_)) (by rw [hth]; rwa [List.map_map] at hok)⟩
            exact List.mem_flatMap.2 ⟨ρ x, List.mem_map.2 ⟨x, by simpa using hx, rfl⟩, hb⟩
      · exact h.elim
    | invoke r m => exact h.elim
  | _ => rw [hop] at h; exact h.elim
end
end Go.Vam
