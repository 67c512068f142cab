/- An abstract machine over data (part 13): the machine run, and where it stops. -/
import Derived.Test.YtncipmjchifcgaaVam12
namespace Go.Vam
open Go.RowKit
set_option linter.unusedVariables false
set_option linter.unusedSimpArgs false

structure EOk (E : En) : Prop where
  hT : TOk E.P E.tt
  hm : E.P.follows .mixedOrders = true
  hb : E.w0.heap.size ≤ E.base
  hmb : E.base ≤ E.mb
def advT (dr : Dr) (o : Oper) (S : St) (e : Eff) : Dr :=
  match dr with
  | none => none
  | some (all, acc) => some (all, acc ++ [.op S.bx.length (usesAll o S) e.kill e.frz])
def advS (dr : Dr) : Dr :=
  match dr with
  | none => none
  | some (all, acc) => some (all, acc ++ [.skip])
def unw (id : Nat) : List Fr → Option (List Fr)
  | [] => none
  | .blk id' :: ks => if id = id' then some ks else unw id ks
  | .code _ :: ks => unw id ks
  | .ops _ _ _ _ :: ks => unw id ks
  | .lp _ :: ks => unw id ks
theorem unw_sound {E : En} {Q : Exit → St → Prop} {id : Nat} {S : St} : ∀ {ks : List Fr}, (match unw id ks with | some ks' => GoK E Q ks' .normal S | none => Q (.exit id) S) → GoK E Q ks (.exit id) S
  | [], h => h
  | .blk id' :: ks, h => by
    simp only [unw] at h
    simp only [GoK]
    split
    · rename_i e; rw [if_pos e] at h; exact h
    · rename_i e; rw [if_neg e] at h; exact unw_sound h
  | .code _ :: ks, h => unw_sound (ks := ks) h
  | .ops _ _ _ _ :: ks, h => unw_sound (ks := ks) h
  | .lp _ :: ks, h => unw_sound (ks := ks) h
theorem GoK_ret {E : En} {Q : Exit → St → Prop} {S : St} : ∀ {ks : List Fr}, Q .ret S → GoK E Q ks .ret S
  | [], h => h
  | .blk id' :: ks, h => GoK_ret (ks := ks) h
  | .code _ :: ks, h => GoK_ret (ks := ks) h
  | .ops _ _ _ _ :: ks, h => GoK_ret (ks := ks) h
  | .lp _ :: ks, h => GoK_ret (ks := ks) h

/-! ### 1. Where the machine stops -/
section
variable (E : En) (Q : Exit → St → Prop) (o : Oper) (l : List Oper) (ds : List (Option Nat)) (dr : Dr) (ks : List Fr) (S : St)
/-- The operation is at hand. -/
def HardOp : Prop := dstOk S.nt o.dst = true → Go E Q (.ops 1 (o :: l) ds dr :: ks) S
def CallG (g : FuncId) (raw : List AV) (caps : List (List C)) : Prop :=
  (∃ fo as ts, o.op = .call { callee := .value fo, args := as, argTypes := ts } ∧ evT S.tm fo = .c (.fn g caps) ∧ mapN (evT S.tm) as.toList = raw) → HardOp E Q o l ds dr ks S
def CallI (g : FuncId) (first raw caps : List AV) : Prop :=
  (∃ fo as ts, o.op = .call { callee := .value fo, args := as, argTypes := ts } ∧ evT S.tm fo = .clo g first caps ∧ mapN (evT S.tm) as.toList = raw) → HardOp E Q o l ds dr ks S
def YldG (b : Nat) (raw : List AV) : Prop :=
  (∃ fo as ts, o.op = .call { callee := .value fo, args := as, argTypes := ts } ∧ evT S.tm fo = .yld b ∧ mapN (evT S.tm) as.toList = raw) → HardOp E Q o l ds dr ks S
def CloG (g : FuncId) (first caps : List AV) : Prop :=
  (∃ f c, o.op = .makeFunc (.func g) f c ∧ mapN (evT S.tm) f.toList = first ∧ mapN (evT S.tm) c.toList = caps) → HardOp E Q o l ds dr ks S
def IdxR (rows : List (List C)) (n : Nat) (j : Int) : Prop :=
  (∃ t x y i e ie, o.op = .indexAddr t x y ∧ E.tt t = some i ∧ i.sl = some e ∧ E.tt e = some ie ∧ numOf (evT S.tm y) = some j ∧ evT S.tm x = .c (.sl rows) ∧ ie.n = n) → HardOp E Q o l ds dr ks S
def IdxO (b : Nat) (rs : List (List C)) (n : Nat) (j : Int) : Prop :=
  (∃ t x y i e ie e', o.op = .indexAddr t x y ∧ E.tt t = some i ∧ i.sl = some e ∧ E.tt e = some ie ∧ numOf (evT S.tm y) = some j ∧ evT S.tm x = .own b ∧ ie.n = n ∧ b ∉ S.dead ∧ nthB S.bx b = some (.rows e' n rs)) → HardOp E Q o l ds dr ks S
def IdxS (s : ByteArray) (j : Int) : Prop :=
  (∃ t x y i, o.op = .index t x y ∧ E.tt t = some i ∧ i.str = true ∧ numOf (evT S.tm y) = some j ∧ evT S.tm x = .c (.sc (.string s))) → HardOp E Q o l ds dr ks S
def IdxA (cs : List C) (sz n : Nat) (ag : Bool) (j : Int) : Prop :=
  (∃ t x y i e, o.op = .index t x y ∧ E.tt t = some i ∧ i.ar = some (e, sz, n, ag) ∧ numOf (evT S.tm y) = some j ∧ evT S.tm x = .agg cs) → HardOp E Q o l ds dr ks S
def IdxP (b o0 sz n : Nat) (j : Int) : Prop :=
  (∃ t x y i e ag, o.op = .indexAddr t x y ∧ E.tt t = some i ∧ i.ar = some (e, sz, n, ag) ∧ numOf (evT S.tm y) = some j ∧ evT S.tm x = .ptr b o0) → HardOp E Q o l ds dr ks S
def LdO (b off : Nat) (sz : Nat) (rs : List (List C)) (n : Nat) (ag : Bool) : Prop :=
  (∃ t x i e', o.op = .load t x ∧ E.tt t = some i ∧ i.n = n ∧ i.ag = ag ∧ (ag = false → n = 1) ∧ 0 < n ∧ evT S.tm x = .optr b off ∧ b ∉ S.dead ∧ nthB S.bx b = some (.rows e' sz rs)) → HardOp E Q o l ds dr ks S
def SlcR (rows : List (List C)) (n : Nat) (lo hi : Option Int) : Prop :=
  (∃ t x lo' hi' i e ie, o.op = .slice t x lo' hi' none ∧ E.tt t = some i ∧ i.sl = some e ∧ E.tt e = some ie ∧ ie.n = n ∧ evT S.tm x = .c (.sl rows) ∧
    (match lo' with | none => lo = none | some y => ∃ k, lo = some k ∧ numOf (evT S.tm y) = some k) ∧ (match hi' with | none => hi = none | some y => ∃ k, hi = some k ∧ numOf (evT S.tm y) = some k)) → HardOp E Q o l ds dr ks S
def SlcO (b e sz : Nat) (rs : List (List C)) (h : Int) : Prop :=
  (∃ t x y i ie, o.op = .slice t x none (some y) none ∧ E.tt t = some i ∧ i.sl = some e ∧ E.tt e = some ie ∧ ie.n = sz ∧ evT S.tm x = .own b ∧ b ∉ S.dead ∧ b ∉ S.fz ∧ nthB S.bx b = some (.rows e sz rs) ∧ numOf (evT S.tm y) = some h) → HardOp E Q o l ds dr ks S
def AppG (x y : AV) (e n bytes : Nat) : Prop :=
  (∃ x' y' t t' it it' e' ie, o.op = .call { callee := .builtin .append, args := #[x', y'], argTypes := #[t, t'] } ∧ E.tt t = some it ∧ it.sl = some e ∧ E.tt t' = some it' ∧ it'.sl = some e' ∧ E.tt e = some ie ∧ ie.zero ≠ [] ∧ 0 < ie.bytes ∧ 0 < ie.n ∧ ie.bytes = bytes ∧ ie.n = n ∧ evT S.tm x' = x ∧ evT S.tm y' = y) → HardOp E Q o l ds dr ks S
def IsNilG (x : AV) : Prop :=
  (∃ t x' y u i e, o.op = .binOp .eql t x' y u ∧ E.tt t = some i ∧ i.sl = some e ∧ evT S.tm x' = x ∧ evT S.tm y = .nil) → HardOp E Q o l ds dr ks S
def StG (t : Nat) (x y : AV) : Prop :=
  (∃ x' y', o.op = .store t x' y' ∧ evT S.tm x' = x ∧ evT S.tm y' = y) → HardOp E Q o l ds dr ks S
end
def boundO (tm : List (Nat × AV)) : Option Operand → Option (Option Int)
  | none => some none
  | some y => match numOf (evT tm y) with
    | some k => some (some k)
    | none => none
def hardF (E : En) (Q : Exit → St → Prop) (o : Oper) (l : List Oper) (ds : List (Option Nat)) (dr : Dr) (ks : List Fr) (S : St) : Prop :=
  match o.op with
  | .call { callee := .value fo, args := as, argTypes := _ } => match evT S.tm fo with
    | .c (.fn g caps) => CallG E Q o l ds dr ks S g (mapN (evT S.tm) as.toList) caps
    | .clo g first caps => CallI E Q o l ds dr ks S g first (mapN (evT S.tm) as.toList) caps
    | .yld b => YldG E Q o l ds dr ks S b (mapN (evT S.tm) as.toList)
    | _ => HardOp E Q o l ds dr ks S
  | .call { callee := .builtin .append, args := as, argTypes := ts } => match as.toList, ts.toList with
    | [x', y'], [t, t'] => match E.tt t, E.tt t' with
      | some it, some it' => match it.sl, it'.sl with
        | some e, some _ => match E.tt e with
          | some ie => match ie.zero, ie.bytes, ie.n with
            | _ :: _, by' + 1, n + 1 => AppG E Q o l ds dr ks S (evT S.tm x') (evT S.tm y') e (n + 1) (by' + 1)
            | _, _, _ => HardOp E Q o l ds dr ks S
          | none => HardOp E Q o l ds dr ks S
        | _, _ => HardOp E Q o l ds dr ks S
      | _, _ => HardOp E Q o l ds dr ks S
    | _, _ => HardOp E Q o l ds dr ks S
  | .indexAddr t x y => match E.tt t, numOf (evT S.tm y) with
    | some i, some j => match i.sl with
      | some e => match E.tt e with
        | some ie => match evT S.tm x with
          | .c (.sl rows) => IdxR E Q o l ds dr ks S rows ie.n j
          | .own b => if memB b S.dead = true then HardOp E Q o l ds dr ks S else match nthB S.bx b with
            | some (.rows _ sz rs) => if sz = ie.n then IdxO E Q o l ds dr ks S b rs sz j else HardOp E Q o l ds dr ks S
            | _ => HardOp E Q o l ds dr ks S
          | _ => HardOp E Q o l ds dr ks S
        | none => HardOp E Q o l ds dr ks S
      | none => match i.ar, evT S.tm x with
        | some (_, sz, n, _), .ptr b o0 => IdxP E Q o l ds dr ks S b o0 sz n j
        | _, _ => HardOp E Q o l ds dr ks S
    | _, _ => HardOp E Q o l ds dr ks S
  | .index t x y => match E.tt t, evT S.tm x, numOf (evT S.tm y) with
    | some i, .c (.sc (.string s)), some j => if i.str = true then IdxS E Q o l ds dr ks S s j else HardOp E Q o l ds dr ks S
    | some i, .agg cs, some j => match i.ar with
      | some (_, sz, n, ag) => IdxA E Q o l ds dr ks S cs sz n ag j
      | none => HardOp E Q o l ds dr ks S
    | _, _, _ => HardOp E Q o l ds dr ks S
  | .load t x => match E.tt t, evT S.tm x with
    | some i, .optr b off => if memB b S.dead = true then HardOp E Q o l ds dr ks S else match nthB S.bx b with
      | some (.rows _ sz rs) => if okN i.ag i.n = true then match i.n with
        | 0 => HardOp E Q o l ds dr ks S
        | n + 1 => LdO E Q o l ds dr ks S b off sz rs (n + 1) i.ag
        else HardOp E Q o l ds dr ks S
      | _ => HardOp E Q o l ds dr ks S
    | _, _ => HardOp E Q o l ds dr ks S
  | .slice t x lo hi mx => match mx, E.tt t with
    | none, some i => match i.sl with
      | some e => match E.tt e with
        | some ie => match evT S.tm x, boundO S.tm lo, boundO S.tm hi with
          | .c (.sl rows), some lo', some hi' => SlcR E Q o l ds dr ks S rows ie.n lo' hi'
          | .own b, some none, some (some h) => if memB b S.dead = true then HardOp E Q o l ds dr ks S else if memB b S.fz = true then HardOp E Q o l ds dr ks S else match nthB S.bx b with
            | some (.rows e' sz rs) => if e' = e ∧ sz = ie.n then SlcO E Q o l ds dr ks S b e' sz rs h else HardOp E Q o l ds dr ks S
            | _ => HardOp E Q o l ds dr ks S
          | _, _, _ => HardOp E Q o l ds dr ks S
        | none => HardOp E Q o l ds dr ks S
      | none => HardOp E Q o l ds dr ks S
    | _, _ => HardOp E Q o l ds dr ks S
  | .binOp op t x y _ => match op, E.tt t, evT S.tm y with
    | .eql, some i, .nil => match i.sl with
      | some _ => IsNilG E Q o l ds dr ks S (evT S.tm x)
      | none => HardOp E Q o l ds dr ks S
    | _, _, _ => HardOp E Q o l ds dr ks S
  | .store t x y => StG E Q o l ds dr ks S t (evT S.tm x) (evT S.tm y)
  | .makeFunc (.func g) f c => CloG E Q o l ds dr ks S g (mapN (evT S.tm) f.toList) (mapN (evT S.tm) c.toList)
  | _ => HardOp E Q o l ds dr ks S
theorem hardF_sound {E : En} {Q : Exit → St → Prop} {o : Oper} {l : List Oper} {ds : List (Option Nat)} {dr : Dr} {ks : List Fr} {S : St} (h : hardF E Q o l ds dr ks S) : HardOp E Q o l ds dr ks S := by
  unfold hardF at h
  cases hop : o.op with
  | call c =>
    rw [hop] at h
    obtain ⟨callee, as, ts⟩ := c
    cases callee with
    | value fo =>
      simp only at h
      split at h
      · rename_i g caps hf
        exact h ⟨fo, as, ts, hop, hf, rfl⟩
      · rename_i g first caps hf
        exact h ⟨fo, as, ts, hop, hf, rfl⟩
      · rename_i b hf
        exact h ⟨fo, as, ts, hop, hf, rfl⟩
      · exact h
    | builtin bi =>
      cases bi <;> simp only at h <;> first | exact h | skip
      split at h
      · rename_i x' y' t t' has hts
        split at h
        · rename_i it it' hi hi'
          split at h
          · rename_i e e' hs hs'
            split at h
            · rename_i ie hie
              split at h
              · rename_i z zs by' n hz hb hn
                have has' : as = #[x', y'] := by apply Array.ext'; simpa using has
                have hts' : ts = #[t, t'] := by apply Array.ext'; simpa using hts
                subst has'; subst hts'
                exact h ⟨x', y', t, t', it, it', e', ie, hop, hi, hs, hi', hs', hie, by rw [hz]; simp, by omega, by omega, hb, hn, rfl, rfl⟩
              · exact h
            · exact h
          · exact h
        · exact h
      · exact h
    | invoke r m => exact h
  | indexAddr t x y =>
    rw [hop] at h
    simp only at h
    split at h
    · rename_i i j hi hj
      split at h
      · rename_i e hs
        split at h
        · rename_i ie hie
          split at h
          · rename_i rows hx
            exact h ⟨t, x, y, i, e, ie, hop, hi, hs, hie, hj, hx, rfl⟩
          · rename_i b hx
            split at h
            · exact h
            · rename_i hd
              split at h
              · rename_i e' sz rs hb
                split at h
                · rename_i hsz
                  subst hsz
                  exact h ⟨t, x, y, i, e, ie, e', hop, hi, hs, hie, hj, hx, rfl, memB_not hd, hb⟩
                · exact h
              · exact h
          · exact h
        · exact h
      · split at h
        · rename_i e sz n ag b o0 har hx
          exact h ⟨t, x, y, i, e, ag, hop, hi, har, hj, hx⟩
        · exact h
    · exact h
  | index t x y =>
    rw [hop] at h
    simp only at h
    split at h
    · rename_i i s j hi hx hj
      split at h
      · rename_i hst
        exact h ⟨t, x, y, i, hop, hi, hst, hj, hx⟩
      · exact h
    · rename_i i cs j hi hx hj
      split at h
      · rename_i e sz n ag har
        exact h ⟨t, x, y, i, e, hop, hi, har, hj, hx⟩
      · exact h
    · exact h
  | load t x =>
    rw [hop] at h
    simp only at h
    split at h
    · rename_i i b off hi hx
      split at h
      · exact h
      · rename_i hd
        split at h
        · rename_i e' sz rs hb
          split at h
          · rename_i hk
            split at h
            · exact h
            · rename_i n hn
              exact h ⟨t, x, i, e', hop, hi, hn, rfl, fun e => by have := okN_spec hk e; omega, by omega, hx, memB_not hd, hb⟩
          · exact h
        · exact h
    · exact h
  | slice t x lo hi mx =>
    rw [hop] at h
    simp only at h
    have hbo : ∀ (y : Option Operand) (r : Option Int), boundO S.tm y = some r → (match y with | none => r = none | some y => ∃ k, r = some k ∧ numOf (evT S.tm y) = some k) := fun y r hr => by
      cases y with
      | none => simp only [boundO, Option.some.injEq] at hr; exact hr.symm
      | some y =>
        simp only [boundO] at hr
        split at hr
        · rename_i k hk
          exact ⟨k, (Option.some.inj hr).symm, hk⟩
        · simp at hr
    split at h
    · rename_i i hi'
      split at h
      · rename_i e hs
        split at h
        · rename_i ie hie
          split at h
          · rename_i rows lo' hi'' hx hl hh
            exact h ⟨t, x, lo, hi, i, e, ie, hop, hi', hs, hie, rfl, hx, hbo _ _ hl, hbo _ _ hh⟩
          · rename_i b hh hx hl hhh
            split at h
            · exact h
            · rename_i hd
              split at h
              · exact h
              · rename_i hf
                split at h
                · rename_i e' sz rs hb
                  split at h
                  · rename_i hc
                    obtain ⟨rfl, rfl⟩ := hc
                    have h1 := hbo _ _ hl
                    have h2 := hbo _ _ hhh
                    cases lo with
                    | some y => obtain ⟨k, hk, _⟩ := h1; simp at hk
                    | none =>
                      cases hi with
                      | none => simp at h2
                      | some y =>
                        obtain ⟨k, hk, hy⟩ := h2
                        injection hk with hk
                        subst hk
                        exact h ⟨t, x, y, i, ie, hop, hi', hs, hie, rfl, hx, memB_not hd, memB_not hf, hb, hy⟩
                  · exact h
                · exact h
          · exact h
        · exact h
      · exact h
    · exact h
  | binOp op t x y u =>
    rw [hop] at h
    simp only at h
    split at h
    · rename_i i hi hy
      split at h
      · rename_i e hs
        exact h ⟨t, x, y, u, i, e, hop, hi, hs, rfl, hy⟩
      · exact h
    · exact h
  | store t x y =>
    rw [hop] at h
    exact h ⟨x, y, hop, rfl, rfl⟩
  | makeFunc fn f c =>
    rw [hop] at h
    cases fn <;> first | exact h ⟨f, c, hop, rfl, rfl⟩ | exact h
  | _ => rw [hop] at h; exact h

/-! ### 2. The run -/
/-- What comes next, where an operation tells by itself, and where it does not. -/
def nxF (x : Option Eff) (o : Oper) (l : List Oper) (ds : List (Option Nat)) (dr : Dr) (ks : List Fr) (S : St) : List Fr :=
  match x with
  | some e => .ops 0 l ds (advT dr o S e) :: ks
  | none => .ops 3 (o :: l) ds dr :: ks
def nxS (x : Option Eff) (d : Option Nat) (S : St) : St :=
  match x with
  | some e => S.app d e
  | none => S
def selF (b : Bool) (x y : List Fr) : List Fr := match b with | true => x | false => y
theorem selF_t (x y : List Fr) : selF true x y = x := rfl
theorem selF_f (x y : List Fr) : selF false x y = y := rfl
theorem nxF_some (e : Eff) (o : Oper) (l : List Oper) (ds : List (Option Nat)) (dr : Dr) (ks : List Fr) (S : St) : nxF (some e) o l ds dr ks S = .ops 0 l ds (advT dr o S e) :: ks := rfl
theorem nxF_none (o : Oper) (l : List Oper) (ds : List (Option Nat)) (dr : Dr) (ks : List Fr) (S : St) : nxF none o l ds dr ks S = .ops 3 (o :: l) ds dr :: ks := rfl
theorem nxS_some (e : Eff) (d : Option Nat) (S : St) : nxS (some e) d S = S.app d e := rfl
theorem nxS_none (d : Option Nat) (S : St) : nxS none d S = S := rfl
def evF (E : En) (Q : Exit → St → Prop) : Nat → List Fr → St → Prop
  | 0, ks, S => Go E Q ks S
  | _ + 1, [], S => Q .normal S
  | n + 1, .blk _ :: ks, S => evF E Q n ks S
  | _ + 1, .lp R :: _, S => R S
  | n + 1, .code c :: ks, S => match c with
    | .skip => evF E Q n ks S
    | .seq a b => evF E Q n (.code a :: .code b :: ks) S
    | .block id c => evF E Q n (.code c :: .blk id :: ks) S
    | .region _ ops true => evF E Q n (.ops 0 ops.toList (mapN (·.dst) ops.toList) (some (ops, [])) :: ks) S
    | .region _ ops false => evF E Q n (.ops 0 ops.toList (mapN (·.dst) ops.toList) none :: ks) S
    | .cond c x y => match evT S.tm c with
      | .c (.sc (.bool b)) => evF E Q n (selF b (.code x :: ks) (.code y :: ks)) S
      | _ => False
    | .exit id => match unw id ks with
      | some ks' => evF E Q n ks' S
      | none => Q (.exit id) S
    | .ret => Q .ret S
    | c => Go E Q (.code c :: ks) S
  | n + 1, .ops _ [] ds dr :: ks, S => match dr with
    | none => evF E Q n ks S
    | some (all, acc) => drawOk all acc = true ∧ evF E Q n ks S
  | n + 1, .ops 0 (o :: l) ds dr :: ks, S => match o.guard with
    | none => evF E Q n (.ops 1 (o :: l) ds dr :: ks) S
    | some (j, want) => match nthD ds j with
      | none => False
      | some t => match look S.tm t with
        | .c (.sc (.bool b)) => evF E Q n (selF (b == want) (.ops 1 (o :: l) ds dr :: ks) (.ops 2 (o :: l) ds dr :: ks)) S
        | .und => evF E Q n (.ops 2 (o :: l) ds dr :: ks) S
        | _ => False
  | n + 1, .ops 1 (o :: l) ds dr :: ks, S => if dstOk S.nt o.dst = true then evF E Q n (nxF (detE E.tt o.op S) o l ds dr ks S) (nxS (detE E.tt o.op S) o.dst S) else False
  | n + 1, .ops (_ + 3) (o :: l) ds dr :: ks, S => if dstOk S.nt o.dst = true then hardF E Q o l ds dr ks S else False
  | n + 1, .ops 2 (o :: l) ds dr :: ks, S => if dstOk S.nt o.dst = true then evF E Q n (.ops 0 l ds (advS dr) :: ks) (S.skip o.dst) else False

theorem GoK.loc {E : En} (hE : EOk E) {Q : Exit → St → Prop} {o : Oper} {l : List Oper} {ds : List (Option Nat)} {dr : Dr} {ks : List Fr} {S : St} {e : Eff} (h : LoclS E o S e) (hd : dstOk S.nt o.dst = true)
    (k : Go E Q (.ops 0 l ds (advT dr o S e) :: ks) (S.app o.dst e)) : Go E Q (.ops 1 (o :: l) ds dr :: ks) S := fun hn => by
  have hn' : E.n0 ≤ (S.app o.dst e).bx.length := by rw [app_len]; omega
  have hk := k hn'
  cases dr with
  | none => exact ⟨true, rfl, fun _ => OpK.loc hE.hT hn hd h hk, by simp⟩
  | some p => exact ⟨true, rfl, fun _ => .inl ⟨e, h, hd, hk⟩, by simp⟩
theorem GoK.skip {E : En} {Q : Exit → St → Prop} {o : Oper} {l : List Oper} {ds : List (Option Nat)} {dr : Dr} {ks : List Fr} {S : St} (hd : dstOk S.nt o.dst = true)
    (k : Go E Q (.ops 0 l ds (advS dr) :: ks) (S.skip o.dst)) : Go E Q (.ops 2 (o :: l) ds dr :: ks) S := fun hn => by
  have hk := k hn
  cases dr with
  | none => exact ⟨false, rfl, by simp, fun _ => ⟨hd, hk⟩⟩
  | some p => exact ⟨false, rfl, by simp, fun _ => ⟨hd, hk⟩⟩
theorem GoK.ask {E : En} {Q : Exit → St → Prop} {o : Oper} {l : List Oper} {ds : List (Option Nat)} {dr : Dr} {ks : List Fr} {S : St} {r : Bool} (hg : guardV ds S.tm o.guard r)
    (k : Go E Q (.ops (if r then 1 else 2) (o :: l) ds dr :: ks) S) : Go E Q (.ops 0 (o :: l) ds dr :: ks) S := fun hn => by
  have hk := k hn
  cases dr with
  | none =>
    cases r with
    | true => obtain ⟨r, rfl, h1, h2⟩ := hk; exact ⟨true, hg, h1, h2⟩
    | false => obtain ⟨r, rfl, h1, h2⟩ := hk; exact ⟨false, hg, h1, h2⟩
  | some p =>
    cases r with
    | true => obtain ⟨r, rfl, h1, h2⟩ := hk; exact ⟨true, hg, h1, h2⟩
    | false => obtain ⟨r, rfl, h1, h2⟩ := hk; exact ⟨false, hg, h1, h2⟩
theorem evF_sound {E : En} (hE : EOk E) {Q : Exit → St → Prop} : ∀ (n : Nat) (ks : List Fr) (S : St), evF E Q n ks S → Go E Q ks S
  | 0, ks, S, h => h
  | _ + 1, [], S, h => fun _ => h
  | n + 1, .blk id :: ks, S, h => fun hn => by
    have := evF_sound hE n ks S h hn
    exact this
  | _ + 1, .lp R :: _, S, h => fun _ => h
  | n + 1, .code c :: ks, S, h => fun hn => by
    unfold evF at h
    cases c with
    | skip =>
      have := evF_sound hE n ks S h hn
      exact AWP.here hn (fun a w R => wpIn_skip) this
    | seq a b =>
      have := evF_sound hE n _ S h hn
      refine AWP.seq (AWP.mono this fun e S' hn' hq => ?_)
      cases e <;> exact hq
    | block id c =>
      have := evF_sound hE n _ S h hn
      refine AWP.block (AWP.mono this fun e S' hn' hq => ?_)
      cases e <;> exact hq
    | region id ops d =>
      cases d with
      | true =>
        have := evF_sound hE n _ S h hn
        simp only [GoK, OpsM, mapN_eq] at this
        refine AWP.mono (AWP.draw hE.hT hE.hm (Q := fun e S' => e = .normal ∧ (E.n0 ≤ S'.bx.length → GoK E Q ks .normal S')) hn ?_) fun e S' hn' hq => by
          obtain ⟨rfl, hq⟩ := hq
          exact hq hn'
        simpa using this
      | false =>
        have := evF_sound hE n _ S h hn
        simp only [GoK, OpsM, mapN_eq] at this
        exact AWP.region hn this
    | cond c x y =>
      simp only at h
      split at h
      · rename_i b hb
        have := evF_sound hE n _ S h hn
        refine AWP.cond hb (fun e => ?_) (fun e => ?_)
        · subst e; exact this
        · subst e; exact this
      · exact h.elim
    | exit id =>
      simp only at h
      refine AWP.here hn (fun a w R => wpIn_exit) (unw_sound ?_)
      split at h
      · exact evF_sound hE n _ S h hn
      · exact h
    | ret => exact AWP.here hn (fun a w R => wpIn_ret) (GoK_ret h)
    | loop c => exact h hn
    | rangeFunc f ps as b => exact h hn
    | scope c => exact h hn
    | label l => exact h hn
    | goto l => exact h hn
    | refuse why => exact h hn
  | n + 1, .ops m [] ds dr :: ks, S, h => fun hn => by
    cases dr with
    | none =>
      have h : evF E Q n ks S := by simpa [evF] using h
      have := evF_sound hE n ks S h hn
      cases m <;> exact this
    | some p =>
      have h : drawOk p.1 p.2 = true ∧ evF E Q n ks S := by simpa [evF] using h
      have := evF_sound hE n ks S h.2 
      cases m <;> exact ⟨h.1, this⟩
  | n + 1, .ops 0 (o :: l) ds dr :: ks, S, h => by
    unfold evF at h
    split at h
    · rename_i hg
      exact GoK.ask (r := true) (by rw [hg]; rfl) (evF_sound hE n _ S h)
    · rename_i j want hg
      split at h
      · exact h.elim
      · rename_i t ht
        split at h
        · rename_i b hb
          refine GoK.ask (r := b == want) (by rw [hg]; exact ⟨t, ht, .inl ⟨b, hb, rfl⟩⟩) ?_
          have := evF_sound hE n _ S h
          cases hr : (b == want) <;> rw [hr] at this <;> exact this
        · rename_i hb
          exact GoK.ask (r := false) (by rw [hg]; exact ⟨t, ht, .inr ⟨hb, rfl⟩⟩) (evF_sound hE n _ S h)
        · exact h.elim
  | n + 1, .ops 1 (o :: l) ds dr :: ks, S, h => by
    unfold evF at h
    split at h
    · rename_i hd
      cases he : detE E.tt o.op S with
      | some e =>
        rw [he] at h
        exact GoK.loc hE (detE_sound he) hd (evF_sound hE n _ _ h)
      | none =>
        rw [he] at h
        have := evF_sound hE n _ _ h
        intro hn
        have := this hn
        cases dr <;> exact this
    · exact h.elim
  | n + 1, .ops (m + 3) (o :: l) ds dr :: ks, S, h => by
    unfold evF at h
    split at h
    · rename_i hd
      have := hardF_sound h hd
      intro hn
      have := this hn
      cases dr <;> exact this
    · exact h.elim
  | n + 1, .ops 2 (o :: l) ds dr :: ks, S, h => by
    unfold evF at h
    split at h
    · rename_i hd
      exact GoK.skip hd (evF_sound hE n _ _ h)
    · exact h.elim

/-! ### 3. How it goes on -/
section
variable {E : En} {Q : Exit → St → Prop} {o : Oper} {l : List Oper} {ds : List (Option Nat)} {dr : Dr} {ks : List Fr} {S : St}
theorem SelF.by {n : Nat} {b : Bool} {x y : List Fr} (h1 : b = true → evF E Q n x S) (h2 : b = false → evF E Q n y S) : evF E Q n (selF b x y) S := by
  cases b
  · exact h2 rfl
  · exact h1 rfl
theorem beqT (b : Bool) : (b == true) = b := by cases b <;> rfl
theorem beqF (b : Bool) : (b == false) = !b := by cases b <;> rfl
theorem SelF.byN {n : Nat} {b : Bool} {x y : List Fr} (h1 : b = false → evF E Q n x S) (h2 : b = true → evF E Q n y S) : evF E Q n (selF (!b) x y) S := by
  cases b
  · exact h1 rfl
  · exact h2 rfl
theorem Go.run (hE : EOk E) (n : Nat) (h : evF E Q n ks S) : Go E Q ks S := evF_sound hE n ks S h
def thawL (bx : List Bx) : List AV → List AV
  | [] => []
  | x :: l => thawF (nthB bx) x :: thawL bx l
theorem thawL_eq (bx : List Bx) (l : List AV) : thawL bx l = l.map (thawF (nthB bx)) := by
  induction l with
  | nil => rfl
  | cons x l ih => simp [thawL, ih]
def frzL : List AV → List Nat
  | [] => []
  | x :: l => frzOf x ++ frzL l
theorem frzL_eq (l : List AV) : frzL l = l.flatMap frzOf := by
  induction l with
  | nil => rfl
  | cons x l ih => simp [frzL, ih]
def retE (r : Ret) (nb : Nat) (frz : List Nat) : Eff :=
  match r with
  | .v x => { res := x, frz }
  | .own e sz rs => { res := .own nb, nw := some (.rows e sz rs), frz }
theorem CallG.ok (hE : EOk E) {g : FuncId} {raw : List AV} {caps : List (List C)} {r : Ret} {args : List AV} (n : Nat) (hok : Ok E.P g args r) (hargs : thawL S.bx raw ++ mapN .pt caps = args) (hd : deadFree S.dead (frzL raw) = true)
    (k : evF E Q n (.ops 0 l ds (advT dr o S (retE r S.bx.length (frzL raw))) :: ks) (S.app o.dst (retE r S.bx.length (frzL raw)))) : CallG E Q o l ds dr ks S g raw caps := fun hf hdst => by
  obtain ⟨fo, as, ts, hop, hfo, hraw⟩ := hf
  refine GoK.loc hE ?_ hdst (evF_sound hE n _ _ k)
  have hfr : (as.toList.flatMap fun x => frzOf (evT S.tm x)) = frzL raw := by
    rw [frzL_eq, ← hraw, mapN_eq, List.flatMap_map]
  have hth : (as.toList.map fun x => thawF (nthB S.bx) (evT S.tm x)) ++ caps.map .pt = args := by
    rw [← hargs, thawL_eq, ← hraw, mapN_eq, mapN_eq, List.map_map]
    rfl
  unfold LoclS Locl
  rw [hop]
  simp only [hfo]
  rw [hfr]
  refine .inl ⟨deadFree_spec hd, r, by rw [hth]; exact hok, ?_⟩
  cases r <;> rfl
theorem IdxR.by (hE : EOk E) {rows : List (List C)} {sz : Nat} {j : Int} {row : List C} (n : Nat) (hj : 0 ≤ j) (hr : rows[j.toNat]? = some row) (hl : row.length = sz)
    (k : evF E Q n (.ops 0 l ds (advT dr o S { res := .pt row }) :: ks) (S.app o.dst { res := .pt row })) : IdxR E Q o l ds dr ks S rows sz j := fun hf hdst => by
  obtain ⟨t, x, y, i, e, ie, hop, hi, hs, hie, hn, hx, hsz⟩ := hf
  refine GoK.loc hE ?_ hdst (evF_sound hE n _ _ k)
  unfold LoclS Locl
  rw [hop]
  simp only [hx]
  exact .inr ⟨i, e, ie, j, hi, hs, hie, hn, hj, row, hr, by rw [hl, hsz], rfl⟩
theorem IdxO.by (hE : EOk E) {b : Nat} {rs : List (List C)} {sz : Nat} {j : Int} (n : Nat) (hj : 0 ≤ j) (hl : j < rs.length)
    (k : evF E Q n (.ops 0 l ds (advT dr o S { res := .optr b (j.toNat * sz) }) :: ks) (S.app o.dst { res := .optr b (j.toNat * sz) })) : IdxO E Q o l ds dr ks S b rs sz j := fun hf hdst => by
  obtain ⟨t, x, y, i, e, ie, e', hop, hi, hs, hie, hn, hx, hsz, hd, hb⟩ := hf
  refine GoK.loc hE ?_ hdst (evF_sound hE n _ _ k)
  unfold LoclS Locl
  rw [hop]
  simp only [hx, hb]
  exact .inr ⟨i, e, ie, j, hi, hs, hie, hn, hj, hd, hsz.symm, hl, by rw [hsz]⟩
theorem IdxS.by (hE : EOk E) {s : ByteArray} {j : Int} (n : Nat) (hj : 0 ≤ j) (hl : j < s.size)
    (k : evF E Q n (.ops 0 l ds (advT dr o S { res := .c (.sc (.int .u8 (byteAt s j.toNat))) }) :: ks) (S.app o.dst { res := .c (.sc (.int .u8 (byteAt s j.toNat))) })) : IdxS E Q o l ds dr ks S s j := fun hf hdst => by
  obtain ⟨t, x, y, i, hop, hi, hs, hn, hx⟩ := hf
  refine GoK.loc hE ?_ hdst (evF_sound hE n _ _ k)
  unfold LoclS Locl
  rw [hop]
  simp only [hx]
  exact ⟨i, j, hi, hs, hn, hj, hl, rfl⟩
theorem IdxA.by (hE : EOk E) {cs : List C} {sz m : Nat} {ag : Bool} {j : Int} (n : Nat) (h0 : 0 ≤ j) (hj : j < (m : Nat)) (hl : j.toNat * sz + sz ≤ cs.length) (h1 : ag = false → sz = 1)
    (k : evF E Q n (.ops 0 l ds (advT dr o S { res := aggOr ag (.agg (takeN sz (dropN (j.toNat * sz) cs))) (.c (nthC cs (j.toNat * sz))) }) :: ks) (S.app o.dst { res := aggOr ag (.agg (takeN sz (dropN (j.toNat * sz) cs))) (.c (nthC cs (j.toNat * sz))) })) : IdxA E Q o l ds dr ks S cs sz m ag j := fun hf hdst => by
  obtain ⟨t, x, y, i, e, hop, hi, har, hn, hx⟩ := hf
  refine GoK.loc hE ?_ hdst (evF_sound hE n _ _ k)
  unfold LoclS Locl
  rw [hop]
  simp only [hx]
  exact ⟨i, e, sz, m, ag, j, hi, har, hn, h0, hj, hl, h1, by rw [aggOr_eq, takeN_eq, dropN_eq, nthC_eq]⟩
theorem IdxP.by (hE : EOk E) {b o0 sz m : Nat} {j : Int} (n : Nat) (h0 : 0 ≤ j) (hj : j < (m : Nat))
    (k : evF E Q n (.ops 0 l ds (advT dr o S { res := .ptr b (o0 + j.toNat * sz) }) :: ks) (S.app o.dst { res := .ptr b (o0 + j.toNat * sz) })) : IdxP E Q o l ds dr ks S b o0 sz m j := fun hf hdst => by
  obtain ⟨t, x, y, i, e, ag, hop, hi, har, hn, hx⟩ := hf
  refine GoK.loc hE ?_ hdst (evF_sound hE n _ _ k)
  unfold LoclS Locl
  rw [hop]
  exact .inl ⟨i, e, sz, m, ag, j, b, o0, hi, har, hn, h0, hj, hx, rfl⟩
theorem LdO.by (hE : EOk E) {b off sz : Nat} {rs : List (List C)} {m : Nat} {ag : Bool} {j : Nat} {row : List C} (n : Nat) (hr : rs[j]? = some row) (hj : j * sz ≤ off) (hl : off - j * sz + m ≤ row.length)
    (k : evF E Q n (.ops 0 l ds (advT dr o S { res := aggOr ag (.agg (takeN m (dropN (off - j * sz) row))) (.c (nthC row (off - j * sz))) }) :: ks) (S.app o.dst { res := aggOr ag (.agg (takeN m (dropN (off - j * sz) row))) (.c (nthC row (off - j * sz))) })) : LdO E Q o l ds dr ks S b off sz rs m ag := fun hf hdst => by
  obtain ⟨t, x, i, e', hop, hi, hn, hag, h1, h0, hx, hd, hb⟩ := hf
  refine GoK.loc hE ?_ hdst (evF_sound hE n _ _ k)
  subst hn; subst hag
  unfold LoclS Locl
  rw [hop]
  simp only [hx, hb]
  exact ⟨i, hi, h1, h0, hd, j, row, hr, hj, hl, by rw [aggOr_eq, takeN_eq, dropN_eq, nthC_eq]⟩
theorem SlcR.by (hE : EOk E) {rows : List (List C)} {sz : Nat} {lo hi : Option Int} (n : Nat) (hr : rowLen sz rows) (h0 : 0 ≤ lo.getD 0) (h1 : lo.getD 0 ≤ hi.getD rows.length) (h2 : hi.getD rows.length ≤ rows.length)
    (k : evF E Q n (.ops 0 l ds (advT dr o S { res := .c (.sl ((rows.take (hi.getD rows.length).toNat).drop (lo.getD 0).toNat)) }) :: ks) (S.app o.dst { res := .c (.sl ((rows.take (hi.getD rows.length).toNat).drop (lo.getD 0).toNat)) })) : SlcR E Q o l ds dr ks S rows sz lo hi := fun hf hdst => by
  obtain ⟨t, x, lo', hi', i, e, ie, hop, hti, hs, hie, hn, hx, hl, hh⟩ := hf
  refine GoK.loc hE ?_ hdst (evF_sound hE n _ _ k)
  unfold LoclS Locl
  rw [hop]
  simp only [hx]
  refine ⟨i, e, ie, hti, hs, hie, by rw [hn]; exact hr, ?_⟩
  have hb : ∀ (d : Int) (y : Option Operand) (r : Option Int) (K : Int → Prop), (match y with | none => r = none | some y => ∃ k, r = some k ∧ numOf (evT S.tm y) = some k) → K (r.getD d) → boundK (evT S.tm) d y K := fun d y r K hy hK => by
    cases y with
    | none => simp only at hy; subst hy; exact hK
    | some y => obtain ⟨k, rfl, hk⟩ := hy; exact ⟨k, hk, hK⟩
  refine hb 0 lo' lo _ hl (hb rows.length hi' hi _ hh ⟨h0, h1, h2, by simp, ⟨Int.le_refl _, h2⟩, rfl⟩)
theorem SlcO.by (hE : EOk E) {b e sz : Nat} {rs : List (List C)} {h : Int} (n : Nat) (h0 : 0 ≤ h) (h1 : h ≤ rs.length)
    (k : evF E Q n (.ops 0 l ds (advT dr o S { res := .own S.bx.length, nw := some (.rows e sz (rs.take h.toNat)), kill := [b] }) :: ks) (S.app o.dst { res := .own S.bx.length, nw := some (.rows e sz (rs.take h.toNat)), kill := [b] })) : SlcO E Q o l ds dr ks S b e sz rs h := fun hf hdst => by
  obtain ⟨t, x, y, i, ie, hop, hi, hs, hie, hsz, hx, hd, hfz, hb, hn⟩ := hf
  refine GoK.loc hE ?_ hdst (evF_sound hE n _ _ k)
  unfold LoclS Locl
  rw [hop]
  simp only [hx, hb]
  exact ⟨i, e, ie, hi, hs, hie, hd, hfz, by trivial, by trivial, by trivial, hsz.symm, h, hn, h0, h1, rfl⟩
/-- What is put behind: the list that it is put behind, and whose box that was. -/
def dstE (bx : List Bx) (dead : List Nat) (e sz : Nat) : AV → Option (List (List C) × List Nat)
  | .nil => some ([], [])
  | .own b => if memB b dead = true then none else match nthB bx b with
    | some (.rows e' sz' rs) => if e' = e ∧ sz' = sz then some (rs, [b]) else none
    | _ => none
  | _ => none
def srcE (bx : List Bx) (dead : List Nat) (sz : Nat) : AV → Option (List (List C))
  | .nil => some []
  | .c (.sl xs) => some xs
  | .own b => if memB b dead = true then none else match nthB bx b with
    | some (.rows _ sz' xs) => if sz' = sz then some xs else none
    | _ => none
  | _ => none
def anyM (fz : List Nat) : List Nat → Bool
  | [] => false
  | b :: l => if memB b fz = true then true else anyM fz l
theorem anyM_eq (fz : List Nat) (l : List Nat) : anyM fz l = l.any fun b => fz.contains b := by
  induction l with
  | nil => rfl
  | cons b l ih =>
    simp only [anyM, List.any_cons]
    by_cases h : b ∈ fz
    · rw [if_pos ((memB_iff b fz).2 h)]; simp [h]
    · rw [if_neg (fun e => h ((memB_iff b fz).1 e)), ih]; simp [h]
def appE (S : St) (e sz : Nat) (rs xs : List (List C)) (kill : List Nat) : Eff := { res := .own S.bx.length, nw := some (.rows e sz (rs ++ xs)), kill, frz := if anyM S.fz kill = true then [S.bx.length] else [] }
theorem AppG.by (hE : EOk E) {x y : AV} {e sz bytes : Nat} {rs xs : List (List C)} {kill : List Nat} (n : Nat) (h1 : dstE S.bx S.dead e sz x = some (rs, kill)) (h2 : srcE S.bx S.dead sz y = some xs) (hr : rowLen sz xs)
    (hb : (rs.length + xs.length) * bytes ≤ 140737488355328)
    (k : evF E Q n (.ops 0 l ds (advT dr o S (appE S e sz rs xs kill)) :: ks) (S.app o.dst (appE S e sz rs xs kill))) : AppG E Q o l ds dr ks S x y e sz bytes := fun hf hdst => by
  obtain ⟨x', y', t, t', it, it', e', ie, hop, hi, hs, hi', hs', hie, hz, hb0, hn0, hbe, hne, hx, hy⟩ := hf
  refine GoK.loc hE ?_ hdst (evF_sound hE n _ _ k)
  unfold LoclS Locl
  rw [hop]
  simp only
  subst hbe; subst hne
  have hK : ∀ (K : List (List C) → List Nat → Prop), K rs kill → dstK (nthB S.bx) S.dead e ie.n (evT S.tm x') K := fun K hK => by
    rw [hx]
    cases x <;> simp only [dstE, reduceCtorEq] at h1
    case nil =>
      simp only [Option.some.injEq, Prod.mk.injEq] at h1
      obtain ⟨rfl, rfl⟩ := h1
      exact hK
    case own b =>
      split at h1
      · simp at h1
      · rename_i hd
        split at h1
        · rename_i e'' sz' rs' hbx
          split at h1
          · rename_i hc
            simp only [Option.some.injEq, Prod.mk.injEq] at h1
            obtain ⟨rfl, rfl⟩ := h1
            refine ⟨memB_not hd, ?_⟩
            rw [hbx]
            exact ⟨hc.1, hc.2, hK⟩
          · simp at h1
        · simp at h1
  have hS : ∀ (K : List (List C) → Prop), K xs → srcK (nthB S.bx) S.dead ie.n (evT S.tm y') K := fun K hK => by
    rw [hy]
    cases y <;> simp only [srcE, reduceCtorEq] at h2
    case nil =>
      simp only [Option.some.injEq] at h2
      subst h2
      exact hK
    case c z =>
      cases z <;> simp only [srcE, reduceCtorEq, Option.some.injEq] at h2
      subst h2
      exact ⟨hr, hK⟩
    case own b =>
      split at h2
      · simp at h2
      · rename_i hd
        split at h2
        · rename_i e'' sz' rs' hbx
          split at h2
          · rename_i hc
            simp only [Option.some.injEq] at h2
            subst h2
            refine ⟨memB_not hd, ?_⟩
            rw [hbx]
            exact ⟨hc, hr, hK⟩
          · simp at h2
        · simp at h2
  exact ⟨x', y', t, t', it, it', e, e', ie, by trivial, by trivial, hi, hs, hi', hs', hie, hz, hb0, hn0, hK _ (hS _ ⟨hb, by unfold appE; rw [anyM_eq]⟩)⟩
/-- Any operation, by what it does to states. -/
theorem HardOp.opK {K : St → Prop} (h : OpK E o S K) (hk : ∀ S', K S' → Go E Q (.ops 0 l ds none :: ks) S') : Go E Q (.ops 1 (o :: l) ds none :: ks) S := fun hn =>
  ⟨true, rfl, fun _ => h.mono fun S' hn' hK => hk S' hK hn', by simp⟩
theorem HardOp.opKd {K : St → Prop} {all : Array Oper} {acc : List TrK} (h : OpK E o S K) (hd : drawOk all (acc ++ [.st]) = true) (hk : ∀ S', K S' → Go E Q ks S') : Go E Q (.ops 1 (o :: []) ds (some (all, acc)) :: ks) S := fun hn =>
  ⟨true, rfl, fun _ => .inr ⟨rfl, hd, h.mono fun S' hn' hK => hk S' hK⟩, by simp⟩
/-- A store's place behind it. -/
def stE (tt : TT) (S : St) (t : Nat) (x y : AV) : Option (Nat × Bx) :=
  match tt t, x with
  | some i, .ptr b off => if memB b S.dead = true then none else if memB b S.fz = true then none else match nthB S.bx b, stOf (nthB S.bx) S.dead y with
    | some (.cells cs), some m => if m.length = i.n then if hasN cs (off + i.n) = true then some (b, .cells (takeN off cs ++ m ++ dropN (off + m.length) cs)) else none else none
    | _, _ => none
  | _, _ => none
theorem StG.opK (hE : EOk E) {t : Nat} {x y : AV} {b : Nat} {x' : Bx} (hf : ∃ x' y', o.op = .store t x' y' ∧ evT S.tm x' = x ∧ evT S.tm y' = y) (hdst : dstOk S.nt o.dst = true) (hn : E.n0 ≤ S.bx.length) (h : stE E.tt S t x y = some (b, x')) : OpK E o S fun S' => S' = S.setB o.dst b x' := by
  obtain ⟨xo, yo, hop, hx, hy⟩ := hf
  unfold stE at h
  split at h
  · rename_i i b' off hi
    split at h
    · simp at h
    · rename_i hd
      split at h
      · simp at h
      · rename_i hfz
        split at h
        · rename_i cs m hbx hm
          split at h
          · rename_i hml
            split at h
            · rename_i hl
              simp only [Option.some.injEq, Prod.mk.injEq] at h
              obtain ⟨rfl, rfl⟩ := h
              rw [← hy] at hm
              refine OpK.storePtr hE.hT hop hn hdst hi hx (memB_not hd) (memB_not hfz) hbx hm hml (hasN_spec _ _ hl) ?_
              rw [takeN_eq, dropN_eq]
            · simp at h
          · simp at h
        · simp at h
  · simp at h
theorem StG.by (hE : EOk E) {tt' : TT} (ht : E.tt = tt') {t : Nat} {x y : AV} {b : Nat} {x' : Bx} (n : Nat) (h : stE tt' S t x y = some (b, x')) (k : evF E Q n (.ops 0 l ds none :: ks) (S.setB o.dst b x')) : StG E Q o l ds none ks S t x y := fun hf hdst hn =>
  HardOp.opK (StG.opK hE hf hdst hn (by rw [ht]; exact h)) (fun S' e => by subst e; exact evF_sound hE n _ _ k) hn
theorem StG.byD (hE : EOk E) {tt' : TT} (ht : E.tt = tt') {all : Array Oper} {acc : List TrK} {t : Nat} {x y : AV} {b : Nat} {x' : Bx} (n : Nat) (h : stE tt' S t x y = some (b, x')) (hd : drawOk all (acc ++ [.st]) = true) (k : evF E Q n ks (S.setB o.dst b x')) : StG E Q o [] ds (some (all, acc)) ks S t x y := fun hf hdst hn =>
  HardOp.opKd (StG.opK hE hf hdst hn (by rw [ht]; exact h)) hd (fun S' e => by subst e; exact evF_sound hE n _ _ k) hn
end
end Go.Vam
