/- An abstract machine over data (part 13): the machine run, and where it stops. -/
import Derived.Test.YtmfbcgheffdghaaGreatG4
set_option linter.unusedSimpArgs false
set_option linter.unusedVariables false
namespace Go.Vam
open Go.RowKit
set_option linter.unusedVariables false
set_option linter.unusedSimpArgs false

structure EOk (E : En) : Prop where
  hT : TOk E.P E.tt
  hm : E.P.follows .mixedOrders = true
  hb : E.w0.heap.size ≤ E.base
  hmb : E.base ≤ E.mb
def advT (dr : Dr) (o : Oper) (S : St) (e : Eff) : Dr :=
  match dr with
  | none => none
  | some (all, acc) => some (all, acc ++ [.op S.bx.length (usesAll o S) e.kill e.frz e.nw.isSome])
def advS (dr : Dr) : Dr :=
  match dr with
  | none => none
  | some (all, acc) => some (all, acc ++ [.skip])
def unw (id : Nat) : List Fr → Option (List Fr)
  | [] => none
  | .blk id' :: ks => if id = id' then some ks else unw id ks
  | .code _ :: ks => unw id ks
  | .ops _ _ _ _ :: ks => unw id ks
  | .lp _ :: ks => unw id ks
theorem unw_sound {E : En} {Q : Exit → St → Prop} {id : Nat} {S : St} : ∀ {ks : List Fr}, (match unw id ks with | some ks' => GoK E Q ks' .normal S | none => Q (.exit id) S) → GoK E Q ks (.exit id) S
  | [], h => h
  | .blk id' :: ks, h => by
    simp only [unw] at h
    simp only [GoK]
    split
    · rename_i e; rw [if_pos e] at h; exact h
    · rename_i e; rw [if_neg e] at h; exact unw_sound h
  | .code _ :: ks, h => unw_sound (ks := ks) h
  | .ops _ _ _ _ :: ks, h => unw_sound (ks := ks) h
  | .lp _ :: ks, h => unw_sound (ks := ks) h
theorem GoK_ret {E : En} {Q : Exit → St → Prop} {S : St} : ∀ {ks : List Fr}, Q .ret S → GoK E Q ks .ret S
  | [], h => h
  | .blk id' :: ks, h => GoK_ret (ks := ks) h
  | .code _ :: ks, h => GoK_ret (ks := ks) h
  | .ops _ _ _ _ :: ks, h => GoK_ret (ks := ks) h
  | .lp _ :: ks, h => GoK_ret (ks := ks) h

/-! ### 1. Where the machine stops -/
section
variable (E : En) (Q : Exit → St → Prop) (o : Oper) (l : List Oper) (ds : List (Option Nat)) (dr : Dr) (ks : List Fr) (S : St)
/-- The operation is at hand. -/
def HardOp : Prop := dstOk S.nt o.dst = true → Go E Q (.ops 1 (o :: l) ds dr :: ks) S
def CallG (g : FuncId) (raw : List AV) (caps : List (List C)) : Prop :=
  (∃ fo as ts, o.op = .call { callee := .value fo, args := as, argTypes := ts } ∧ evT S.tm fo = .c (.fn g caps) ∧ mapN (evT S.tm) as.toList = raw) → HardOp E Q o l ds dr ks S
def CallI (g : FuncId) (first raw caps : List AV) : Prop :=
  (∃ fo as ts, o.op = .call { callee := .value fo, args := as, argTypes := ts } ∧ evT S.tm fo = .clo g first caps ∧ mapN (evT S.tm) as.toList = raw) → HardOp E Q o l ds dr ks S
def YldG (b : Nat) (raw : List AV) : Prop :=
  (∃ fo as ts, o.op = .call { callee := .value fo, args := as, argTypes := ts } ∧ evT S.tm fo = .yld b ∧ mapN (evT S.tm) as.toList = raw) → HardOp E Q o l ds dr ks S
def CloG (g : FuncId) (first caps : List AV) : Prop :=
  (∃ f c, o.op = .makeFunc (.func g) f c ∧ mapN (evT S.tm) f.toList = first ∧ mapN (evT S.tm) c.toList = caps) → HardOp E Q o l ds dr ks S
def IdxR (rows : List (List C)) (n : Nat) (j : Int) : Prop :=
  (∃ t x y i e ie, o.op = .indexAddr t x y ∧ E.tt t = some i ∧ i.sl = some e ∧ E.tt e = some ie ∧ numOf (evT S.tm y) = some j ∧ evT S.tm x = .c (.sl rows) ∧ ie.n = n) → HardOp E Q o l ds dr ks S
def IdxO (b : Nat) (rs : List (List C)) (n : Nat) (j : Int) : Prop :=
  (∃ t x y i e ie e', o.op = .indexAddr t x y ∧ E.tt t = some i ∧ i.sl = some e ∧ E.tt e = some ie ∧ numOf (evT S.tm y) = some j ∧ evT S.tm x = .own b ∧ ie.n = n ∧ b ∉ S.dead ∧ nthB S.bx b = some (.rows e' n rs)) → HardOp E Q o l ds dr ks S
def IdxS (s : ByteArray) (j : Int) : Prop :=
  (∃ t x y i, o.op = .index t x y ∧ E.tt t = some i ∧ i.str = true ∧ numOf (evT S.tm y) = some j ∧ evT S.tm x = .c (.sc (.string s))) → HardOp E Q o l ds dr ks S
def IdxA (cs : List C) (sz n : Nat) (ag : Bool) (j : Int) : Prop :=
  (∃ t x y i e, o.op = .index t x y ∧ E.tt t = some i ∧ i.ar = some (e, sz, n, ag) ∧ numOf (evT S.tm y) = some j ∧ evT S.tm x = .agg cs) → HardOp E Q o l ds dr ks S
def IdxP (b o0 sz n : Nat) (j : Int) : Prop :=
  (∃ t x y i e ag, o.op = .indexAddr t x y ∧ E.tt t = some i ∧ i.ar = some (e, sz, n, ag) ∧ numOf (evT S.tm y) = some j ∧ evT S.tm x = .ptr b o0) → HardOp E Q o l ds dr ks S
def LdO (b off : Nat) (sz : Nat) (rs : List (List C)) (n : Nat) (ag : Bool) : Prop :=
  (∃ t x i e', o.op = .load t x ∧ E.tt t = some i ∧ i.n = n ∧ i.ag = ag ∧ (ag = false → n = 1) ∧ 0 < n ∧ evT S.tm x = .optr b off ∧ b ∉ S.dead ∧ nthB S.bx b = some (.rows e' sz rs)) → HardOp E Q o l ds dr ks S
def SlcR (rows : List (List C)) (n : Nat) (lo hi : Option Int) : Prop :=
  (∃ t x lo' hi' i e ie, o.op = .slice t x lo' hi' none ∧ E.tt t = some i ∧ i.sl = some e ∧ E.tt e = some ie ∧ ie.n = n ∧ evT S.tm x = .c (.sl rows) ∧
    (match lo' with | none => lo = none | some y => ∃ k, lo = some k ∧ numOf (evT S.tm y) = some k) ∧ (match hi' with | none => hi = none | some y => ∃ k, hi = some k ∧ numOf (evT S.tm y) = some k)) → HardOp E Q o l ds dr ks S
def SlcO (b e sz : Nat) (rs : List (List C)) (h : Int) : Prop :=
  (∃ t x y i ie, o.op = .slice t x none (some y) none ∧ E.tt t = some i ∧ i.sl = some e ∧ E.tt e = some ie ∧ ie.n = sz ∧ evT S.tm x = .own b ∧ b ∉ S.dead ∧ b ∉ S.fz ∧ nthB S.bx b = some (.rows e sz rs) ∧ numOf (evT S.tm y) = some h) → HardOp E Q o l ds dr ks S
def AppG (x y : AV) (e n bytes : Nat) : Prop :=
  (∃ x' y' t t' it it' e' ie, o.op = .call { callee := .builtin .append, args := #[x', y'], argTypes := #[t, t'] } ∧ E.tt t = some it ∧ it.sl = some e ∧ E.tt t' = some it' ∧ it'.sl = some e' ∧ E.tt e = some ie ∧ ie.zero ≠ [] ∧ 0 < ie.bytes ∧ 0 < ie.n ∧ ie.bytes = bytes ∧ ie.n = n ∧ evT S.tm x' = x ∧ evT S.tm y' = y) → HardOp E Q o l ds dr ks S
def IsNilG (x : AV) : Prop :=
  (∃ t x' y u i e, o.op = .binOp .eql t x' y u ∧ E.tt t = some i ∧ i.sl = some e ∧ evT S.tm x' = x ∧ evT S.tm y = .nil) → HardOp E Q o l ds dr ks S
def StG (t : Nat) (x y : AV) : Prop :=
  (∃ x' y', o.op = .store t x' y' ∧ evT S.tm x' = x ∧ evT S.tm y' = y) → HardOp E Q o l ds dr ks S
end
def boundO (tm : List (Nat × AV)) : Option Operand → Option (Option Int)
  | none => some none
  | some y => match numOf (evT tm y) with
    | some k => some (some k)
    | none => none
def hardF (E : En) (Q : Exit → St → Prop) (o : Oper) (l : List Oper) (ds : List (Option Nat)) (dr : Dr) (ks : List Fr) (S : St) : Prop :=
  match o.op with
  | .call { callee := .value fo, args := as, argTypes := _ } => match evT S.tm fo with
    | .c (.fn g caps) => CallG E Q o l ds dr ks S g (mapN (evT S.tm) as.toList) caps
    | .clo g first caps => CallI E Q o l ds dr ks S g first (mapN (evT S.tm) as.toList) caps
    | .yld b => YldG E Q o l ds dr ks S b (mapN (evT S.tm) as.toList)
    | _ => HardOp E Q o l ds dr ks S
  | .call { callee := .builtin .append, args := as, argTypes := ts } => match as.toList, ts.toList with
    | [x', y'], [t, t'] => match E.tt t, E.tt t' with
      | some it, some it' => match it.sl, it'.sl with
        | some e, some _ => match E.tt e with
          | some ie => match ie.zero, ie.bytes, ie.n with
            | _ :: _, by' + 1, n + 1 => AppG E Q o l ds dr ks S (evT S.tm x') (evT S.tm y') e (n + 1) (by' + 1)
            | _, _, _ => HardOp E Q o l ds dr ks S
          | none => HardOp E Q o l ds dr ks S
        | _, _ => HardOp E Q o l ds dr ks S
      | _, _ => HardOp E Q o l ds dr ks S
    | _, _ => HardOp E Q o l ds dr ks S
  | .indexAddr t x y => match E.tt t, numOf (evT S.tm y) with
    | some i, some j => match i.sl with
      | some e => match E.tt e with
        | some ie => match evT S.tm x with
          | .c (.sl rows) => IdxR E Q o l ds dr ks S rows ie.n j
          | .own b => if memB b S.dead = true then HardOp E Q o l ds dr ks S else match nthB S.bx b with
            | some (.rows _ sz rs) => if sz = ie.n then IdxO E Q o l ds dr ks S b rs sz j else HardOp E Q o l ds dr ks S
            | _ => HardOp E Q o l ds dr ks S
          | _ => HardOp E Q o l ds dr ks S
        | none => HardOp E Q o l ds dr ks S
      | none => match i.ar, evT S.tm x with
        | some (_, sz, n, _), .ptr b o0 => IdxP E Q o l ds dr ks S b o0 sz n j
        | _, _ => HardOp E Q o l ds dr ks S
    | _, _ => HardOp E Q o l ds dr ks S
  | .index t x y => match E.tt t, evT S.tm x, numOf (evT S.tm y) with
    | some i, .c (.sc (.string s)), some j => if i.str = true then IdxS E Q o l ds dr ks S s j else HardOp E Q o l ds dr ks S
    | some i, .agg cs, some j => match i.ar with
      | some (_, sz, n, ag) => IdxA E Q o l ds dr ks S cs sz n ag j
      | none => HardOp E Q o l ds dr ks S
    | _, _, _ => HardOp E Q o l ds dr ks S
  | .load t x => match E.tt t, evT S.tm x with
    | some i, .optr b off => if memB b S.dead = true then HardOp E Q o l ds dr ks S else match nthB S.bx b with
      | some (.rows _ sz rs) => if okN i.ag i.n = true then match i.n with
        | 0 => HardOp E Q o l ds dr ks S
        | n + 1 => LdO E Q o l ds dr ks S b off sz rs (n + 1) i.ag
        else HardOp E Q o l ds dr ks S
      | _ => HardOp E Q o l ds dr ks S
    | _, _ => HardOp E Q o l ds dr ks S
  | .slice t x lo hi mx => match mx, E.tt t with
    | none, some i => match i.sl with
      | some e => match E.tt e with
        | some ie => match evT S.tm x, boundO S.tm lo, boundO S.tm hi with
          | .c (.sl rows), some lo', some hi' => SlcR E Q o l ds dr ks S rows ie.n lo' hi'
          | .own b, some none, some (some h) => if memB b S.dead = true then HardOp E Q o l ds dr ks S else if memB b S.fz = true then HardOp E Q o l ds dr ks S else match nthB S.bx b with
            | some (.rows e' sz rs) => if e' = e ∧ sz = ie.n then SlcO E Q o l ds dr ks S b e' sz rs h else HardOp E Q o l ds dr ks S
            | _ => HardOp E Q o l ds dr ks S
          | _, _, _ => HardOp E Q o l ds dr ks S
        | none => HardOp E Q o l ds dr ks S
      | none => HardOp E Q o l ds dr ks S
    | _, _ => HardOp E Q o l ds dr ks S
  | .binOp op t x y _ => match op, E.tt t, evT S.tm y with
    | .eql, some i, .nil => match i.sl with
      | some _ => IsNilG E Q o l ds dr ks S (evT S.tm x)
      | none => HardOp E Q o l ds dr ks S
    | _, _, _ => HardOp E Q o l ds dr ks S
  | .store t x y => StG E Q o l ds dr ks S t (evT S.tm x) (evT S.tm y)
  | .makeFunc (.func g) f c => CloG E Q o l ds dr ks S g (mapN (evT S.tm) f.toList) (mapN (evT S.tm) c.toList)
  | _ => HardOp E Q o l ds dr ks S
theorem hardF_sound {E : En} {Q : Exit → St → Prop} {o : Oper} {l : List Oper} {ds : List (Option Nat)} {dr : Dr} {ks : List Fr} {S : St} (h : hardF E Q o l ds dr ks S) : HardOp E Q o l ds dr ks S := by
  unfold hardF at h
  cases hop : o.op with
  | call c =>
    rw [hop] at h
    obtain ⟨callee, as, ts⟩ := c
    cases callee with
    | value fo =>
      simp only at h
      split at h
      · rename_i g caps hf
        exact h ⟨fo, as, ts, hop, hf, rfl⟩
      · rename_i g first caps hf
        exact h ⟨fo, as, ts, hop, hf, rfl⟩
      · rename_i b hf
        exact h ⟨fo, as, ts, hop, hf, rfl⟩
      · exact h
    | builtin bi =>
      cases bi <;> simp only at h <;> first | exact h | skip
      split at h
      · rename_i x' y' t t' has hts
        split at h
        · rename_i it it' hi hi'
          split at h
          · rename_i e e' hs hs'
            split at h
            · rename_i ie hie
              split at h
              · rename_i z zs by' n hz hb hn
                have has' : as = #[x', y'] := by apply Array.ext'; simpa using has
                have hts' : ts = #[t, t'] := by apply Array.ext'; simpa using hts
                subst has'; subst hts'
                exact h ⟨x', y', t, t', it, it', e', ie, hop, hi, hs, hi', hs', hie, by rw [hz]; simp, by omega, by omega, hb, hn, rfl, rfl⟩
              · exact h
            · exact h
          · exact h
        · exact h
      · exact h
    | invoke r m => exact h
  | indexAddr t x y =>
    rw [hop] at h
    simp only at h
    split at h
    · rename_i i j hi hj
      split at h
      · rename_i e hs
        split at h
        · rename_i ie hie
          split at h
          · rename_i rows hx
            exact h ⟨t, x, y, i, e, ie, hop, hi, hs, hie, hj, hx, rfl⟩
          · rename_i b hx
            split at h
            · exact h
            · rename_i hd
              split at h
              · rename_i e' sz rs hb
                split at h
                · rename_i hsz
                  subst hsz
                  exact h ⟨t, x, y, i, e, ie, e', hop, hi, hs, hie, hj, hx, rfl, memB_not hd, hb⟩
                · exact h
              · exact h
          · exact h
        · exact h
      · split at h
        · rename_i e sz n ag b o0 har hx
          exact h ⟨t, x, y, i, e, ag, hop, hi, har, hj, hx⟩
        · exact h
    · exact h
  | index t x y =>
    rw [hop] at h
    simp only at h
    split at h
    · rename_i i s j hi hx hj
      split at h
      · rename_i hst
        exact h ⟨t, x, y, i, hop, hi, hst, hj, hx⟩
      · exact h
    · rename_i i cs j hi hx hj
      split at h
      · rename_i e sz n ag har
        exact h ⟨t, x, y, i, e, hop, hi, har, hj, hx⟩
      · exact h
    · exact h
  | load t x =>
    rw [hop] at h
    simp only at h
    split at h
    · rename_i i b off hi hx
      split at h
      · exact h
      · rename_i hd
        split at h
        · rename_i e' sz rs hb
          split at h
          · rename_i hk
            split at h
            · exact h
            · rename_i n hn
              exact h ⟨t, x, i, e', hop, hi, hn, rfl, fun e => by have := okN_spec hk e; omega, by omega, hx, memB_not hd, hb⟩
          · exact h
        · exact h
    · exact h
  | slice t x lo hi mx =>
    rw [hop] at h
    simp only at h
    have hbo : ∀ (y : Option Operand) (r : Option Int), boundO S.tm y = some r → (match y with | none => r = none | some y => ∃ k, r = some k ∧ numOf (evT S.tm y) = some k) := fun y r hr => by
      cases y with
      | none => simp only [boundO, Option.some.injEq] at hr; exact hr.symm
      | some y =>
        simp only [boundO] at hr
        split at hr
        · rename_i k hk
          exact ⟨k, (Option.some.inj hr).symm, hk⟩
        · simp at hr
    split at h
    · rename_i i hi'
      split at h
      · rename_i e hs
        split at h
        · rename_i ie hie
          split at h
          · rename_i rows lo' hi'' hx hl hh
            exact h ⟨t, x, lo, hi, i, e, ie, hop, hi', hs, hie, rfl, hx, hbo _ _ hl, hbo _ _ hh⟩
          · rename_i b hh hx hl hhh
            split at h
            · exact h
            · rename_i hd
              split at h
              · exact h
              · rename_i hf
                split at h
                · rename_i e' sz rs hb
                  split at h
                  · rename_i hc
                    obtain ⟨rfl, rfl⟩ := hc
                    have h1 := hbo _ _ hl
                    have h2 := hbo _ _ hhh
                    cases lo with
                    | some y => obtain ⟨k, hk, _⟩ := h1; simp at hk
                    | none =>
                      cases hi with
                      | none => simp at h2
                      | some y =>
                        obtain ⟨k, hk, hy⟩ := h2
                        injection hk with hk
                        subst hk
                        exact h ⟨t, x, y, i, ie, hop, hi', hs, hie, rfl, hx, memB_not hd, memB_not hf, hb, hy⟩
                  · exact h
                · exact h
          · exact h
        · exact h
      · exact h
    · exact h
  | binOp op t x y u =>
    rw [hop] at h
    simp only at h
    split at h
    · rename_i i hi hy
      split at h
      · rename_i e hs
        exact h ⟨t, x, y, u, i, e, hop, hi, hs, rfl, hy⟩
      · exact h
    · exact h
  | store t x y =>
    rw [hop] at h
    exact h ⟨x, y, hop, rfl, rfl⟩
  | makeFunc fn f c =>
    rw [hop] at h
    cases fn <;> first | exact h ⟨f, c, hop, rfl, rfl⟩ | exact h
  | _ => rw [hop] at h; exact h

/-! ### 2. The run -/
/-- What comes next, where an operation tells by itself, and where it does not. -/
def nxF (x : Option Eff) (o : Oper) (l : List Oper) (ds : List (Option Nat)) (dr : Dr) (ks : List Fr) (S : St) : List Fr :=
  match x with
  | some e => .ops 0 l ds (advT dr o S e) :: ks
  | none => .ops 3 (o :: l) ds dr :: ks
def nxS (x : Option Eff) (d : Option Nat) (S : St) : St :=
  match x with
  | some e => S.app d e
  | none => S
def selF (b : Bool) (x y : List Fr) : List Fr := match b with | true => x | false => y
theorem selF_t (x y : List Fr) : selF true x y = x := rfl
theorem selF_f (x y : List Fr) : selF false x y = y := rfl
theorem nxF_some (e : Eff) (o : Oper) (l : List Oper) (ds : List (Option Nat)) (dr : Dr) (ks : List Fr) (S : St) : nxF (some e) o l ds dr ks S = .ops 0 l ds (advT dr o S e) :: ks := rfl
theorem nxF_none (o : Oper) (l : List Oper) (ds : List (Option Nat)) (dr : Dr) (ks : List Fr) (S : St) : nxF none o l ds dr ks S = .ops 3 (o :: l) ds dr :: ks := rfl
theorem nxS_some (e : Eff) (d : Option Nat) (S : St) : nxS (some e) d S = S.app d e := rfl
theorem nxS_none (d : Option Nat) (S : St) : nxS none d S = S := rfl
def evF (E : En) (Q : Exit → St → Prop) : Nat → List Fr → St → Prop
  | 0, ks, S => Go E Q ks S
  | _ + 1, [], S => Q .normal S
  | n + 1, .blk _ :: ks, S => evF E Q n ks S
  | _ + 1, .lp R :: _, S => R S
  | n + 1, .code c :: ks, S => match c with
    | .skip => evF E Q n ks S
    | .seq a b => evF E Q n (.code a :: .code b :: ks) S
    | .block id c => evF E Q n (.code c :: .blk id :: ks) S
    | .region _ ops true => evF E Q n (.ops 0 ops.toList (mapN (·.dst) ops.toList) (some (ops, [])) :: ks) S
    | .region _ ops false => evF E Q n (.ops 0 ops.toList (mapN (·.dst) ops.toList) none :: ks) S
    | .cond c x y => match evT S.tm c with
      | .c (.sc (.bool b)) => evF E Q n (selF b (.code x :: ks) (.code y :: ks)) S
      | _ => False
    | .exit id => match unw id ks with
      | some ks' => evF E Q n ks' S
      | none => Q (.exit id) S
    | .ret => Q .ret S
    | c => Go E Q (.code c :: ks) S
  | n + 1, .ops _ [] ds dr :: ks, S => match dr with
    | none => evF E Q n ks S
    | some (all, acc) => drawOk all acc = true ∧ evF E Q n ks (fin acc S)
  | n + 1, .ops 0 (o :: l) ds dr :: ks, S => match o.guard with
    | none => evF E Q n (.ops 1 (o :: l) ds dr :: ks) S
    | some (j, want) => match nthD ds j with
      | none => False
      | some t => match look S.tm t with
        | .c (.sc (.bool b)) => evF E Q n (selF (b == want) (.ops 1 (o :: l) ds dr :: ks) (.ops 2 (o :: l) ds dr :: ks)) S
        | .und => evF E Q n (.ops 2 (o :: l) ds dr :: ks) S
        | _ => False
  | n + 1, .ops 1 (o :: l) ds dr :: ks, S => if dstOk S.nt o.dst = true then evF E Q n (nxF (detE E.tt o.op S) o l ds dr ks S) (nxS (detE E.tt o.op S) o.dst S) else False
  | n + 1, .ops (_ + 3) (o :: l) ds dr :: ks, S => if dstOk S.nt o.dst = true then hardF E Q o l ds dr ks S else False
  | n + 1, .ops 2 (o :: l) ds dr :: ks, S => if dstOk S.nt o.dst = true then evF E Q n (.ops 0 l ds (advS dr) :: ks) (S.skip o.dst) else False

theorem GoK.loc {E : En} (hE : EOk E) {Q : Exit → St → Prop} {o : Oper} {l : List Oper} {ds : List (Option Nat)} {dr : Dr} {ks : List Fr} {S : St} {e : Eff} (h : LoclS E o S e) (hd : dstOk S.nt o.dst = true)
    (k : Go E Q (.ops 0 l ds (advT dr o S e) :: ks) (S.app o.dst e)) : Go E Q (.ops 1 (o :: l) ds dr :: ks) S := fun hn => by
  have hn' : E.n0 ≤ (S.app o.dst e).bx.length := by rw [app_len]; omega
  have hk := k hn'
  cases dr with
  | none => exact ⟨true, rfl, fun _ => OpK.loc hE.hT hn hd h hk, by simp⟩
  | some p => exact ⟨true, rfl, fun _ => .inl ⟨e, h, hd, hk⟩, by simp⟩
theorem GoK.skip {E : En} {Q : Exit → St → Prop} {o : Oper} {l : List Oper} {ds : List (Option Nat)} {dr : Dr} {ks : List Fr} {S : St} (hd : dstOk S.nt o.dst = true)
    (k : Go E Q (.ops 0 l ds (advS dr) :: ks) (S.skip o.dst)) : Go E Q (.ops 2 (o :: l) ds dr :: ks) S := fun hn => by
  have hk := k hn
  cases dr with
  | none => exact ⟨false, rfl, by simp, fun _ => ⟨hd, hk⟩⟩
  | some p => exact ⟨false, rfl, by simp, fun _ => ⟨hd, hk⟩⟩
theorem GoK.ask {E : En} {Q : Exit → St → Prop} {o : Oper} {l : List Oper} {ds : List (Option Nat)} {dr : Dr} {ks : List Fr} {S : St} {r : Bool} (hg : guardV ds S.tm o.guard r)
    (k : Go E Q (.ops (if r then 1 else 2) (o :: l) ds dr :: ks) S) : Go E Q (.ops 0 (o :: l) ds dr :: ks) S := fun hn => by
  have hk := k hn
  cases dr with
  | none =>
    cases r with
    | true => obtain ⟨r, rfl, h1, h2⟩ := hk; exact ⟨true, hg, h1, h2⟩
    | false => obtain ⟨r, rfl, h1, h2⟩ := hk; exact ⟨false, hg, h1, h2⟩
  | some p =>
    cases r with
    | true => obtain ⟨r, rfl, h1, h2⟩ := hk; exact ⟨true, hg, h1, h2⟩
    | false => obtain ⟨r, rfl, h1, h2⟩ := hk; exact ⟨false, hg, h1, h2⟩
theorem evF_sound {E : En} (hE : EOk E) {Q : Exit → St → Prop} : ∀ (n : Nat) (ks : List Fr) (S : St), evF E Q n ks S → Go E Q ks S
  | 0, ks, S, h => h
  | _ + 1, [], S, h => fun _ => h
  | n + 1, .blk id :: ks, S, h => fun hn => by
    have := evF_sound hE n ks S h hn
    exact this
  | _ + 1, .lp R :: _, S, h => fun _ => h
  | n + 1, .code c :: ks, S, h => fun hn => by
    unfold evF at h
    cases c with
    | skip =>
      have := evF_sound hE n ks S h hn
      exact AWP.here hn (fun a w R => wpIn_skip) this
    | seq a b =>
      have := evF_sound hE n _ S h hn
      refine AWP.seq (AWP.mono this fun e S' hn' hq => ?_)
      cases e <;> exact hq
    | block id c =>
      have := evF_sound hE n _ S h hn
      refine AWP.block (AWP.mono this fun e S' hn' hq => ?_)
      cases e <;> exact hq
    | region id ops d =>
      cases d with
      | true =>
        have := evF_sound hE n _ S h hn
        simp only [GoK, OpsM, mapN_eq] at this
        refine AWP.mono (AWP.draw hE.hT hE.hm (Q := fun e S' => e = .normal ∧ (E.n0 ≤ S'.bx.length → GoK E Q ks .normal S')) hn ?_) fun e S' hn' hq => by
          obtain ⟨rfl, hq⟩ := hq
          exact hq hn'
        simpa using this
      | false =>
        have := evF_sound hE n _ S h hn
        simp only [GoK, OpsM, mapN_eq] at this
        exact AWP.region hn this
    | cond c x y =>
      simp only at h
      split at h
      · rename_i b hb
        have := evF_sound hE n _ S h hn
        refine AWP.cond hb (fun e => ?_) (fun e => ?_)
        · subst e; exact this
        · subst e; exact this
      · exact h.elim
    | exit id =>
      simp only at h
      refine AWP.here hn (fun a w R => wpIn_exit) (unw_sound ?_)
      split at h
      · exact evF_sound hE n _ S h hn
      · exact h
    | ret => exact AWP.here hn (fun a w R => wpIn_ret) (GoK_ret h)
    | loop c => exact h hn
    | rangeFunc f ps as b => exact h hn
    | scope c => exact h hn
    | label l => exact h hn
    | goto l => exact h hn
    | refuse why => exact h hn
  | n + 1, .ops m [] ds dr :: ks, S, h => fun hn => by
    cases dr with
    | none =>
      have h : evF E Q n ks S := by simpa [evF] using h
      have := evF_sound hE n ks S h hn
      cases m <;> exact this
    | some p =>
      have h : drawOk p.1 p.2 = true ∧ evF E Q n ks (fin p.2 S) := by simpa [evF] using h
      have := evF_sound hE n ks (fin p.2 S) h.2 
      cases m <;> exact ⟨h.1, this⟩
  | n + 1, .ops 0 (o :: l) ds dr :: ks, S, h => by
    unfold evF at h
    split at h
    · rename_i hg
      exact GoK.ask (r := true) (by rw [hg]; rfl) (evF_sound hE n _ S h)
    · rename_i j want hg
      split at h
      · exact h.elim
      · rename_i t ht
        split at h
        · rename_i b hb
          refine GoK.ask (r := b == want) (by rw [hg]; exact ⟨t, ht, .inl ⟨b, hb, rfl⟩⟩) ?_
          have := evF_sound hE n _ S h
          cases hr : (b == want) <;> rw [hr] at this <;> exact this
        · rename_i hb
          exact GoK.ask (r := false) (by rw [hg]; exact ⟨t, ht, .inr ⟨hb, rfl⟩⟩) (evF_sound hE n _ S h)
        · exact h.elim
  | n + 1, .ops 1 (o :: l) ds dr :: ks, S, h => by
    unfold evF at h
    split at h
    · rename_i hd
      cases he : detE E.tt o.op S with
      | some e =>
        rw [he] at h
        exact GoK.loc hE (detE_sound he) hd (evF_sound hE n _ _ h)
      | none =>
        rw [he] at h
        have := evF_sound hE n _ _ h
        intro hn
        have := this hn
        cases dr <;> exact this
    · exact h.elim
  | n + 1, .ops (m + 3) (o :: l) ds dr :: ks, S, h => by
    unfold evF at h
    split at h
    · rename_i hd
      have := hardF_sound h hd
      intro hn
      have := this hn
      cases dr <;> exact this
    · exact h.elim
  | n + 1, .ops 2 (o :: l) ds dr :: ks, S, h => by
    unfold evF at h
    split at h
    · rename_i hd
      exact GoK.skip hd (evF_sound hE n _ _ h)
    · exact h.elim

/-! ### 3. How it goes on -/
section
variable {E : En} {Q : Exit → St → Prop} {o : Oper} {l : List Oper} {ds : List (Option Nat)} {dr : Dr} {ks : List Fr} {S : St}
theorem SelF.by {n : Nat} {b : Bool} {x y : List Fr} (h1 : b = true → evF E Q n x S) (h2 : b = false → evF E Q n y S) : evF E Q n (selF b x y) S := by
  cases b
  · exact h2 rfl
  · exact h1 rfl
theorem beqT (b : Bool) : (b == true) = b := by cases b <;> rfl
theorem beqF (b : Bool) : (b == false) = !b := by cases b <;> rfl
theorem SelF.byN {n : Nat} {b : Bool} {x y : List Fr} (h1 : b = false → evF E Q n x S) (h2 : b = true → evF E Q n y S) : evF E Q n (selF (!b) x y) S := by
  cases b
  · exact h1 rfl
  · exact h2 rfl
theorem Go.run (hE : EOk E) (n : Nat) (h : evF E Q n ks S) : Go E Q ks S := evF_sound hE n ks S h
def thawL (bx : List Bx) : List AV → List AV
  | [] => []
  | x :: l => thawF (nthB bx) x :: thawL bx l
theorem thawL_eq (bx : List Bx) (l : List AV) : thawL bx l = l.map (thawF (nthB bx)) := by
  induction l with
  | nil => rfl
  | cons x l ih => simp [thawL, ih]
def frzL : List AV → List Nat
  | [] => []
  | x :: l => frzOf x ++ frzL l
theorem frzL_eq (l : List AV) : frzL l = l.flatMap frzOf := by
  induction l with
  | nil => rfl
  | cons x l ih => simp [frzL, ih]
def retE (r : Ret) (nb : Nat) (frz : List Nat) : Eff :=
  match r with
  | .v x => { res := x, frz }
  | .own e sz rs => { res := .own nb, nw := some (.rows e sz rs), frz }
  | .mix pre e sz rs post => { res := .tup (pre ++ .own nb :: post), nw := some (.rows e sz rs), frz }
theorem CallG.ok (hE : EOk E) {g : FuncId} {raw : List AV} {caps : List (List C)} {r : Ret} {args : List AV} (n : Nat) (hok : Ok E.P g args r) (hargs : thawL S.bx raw ++ mapN .pt caps = args) (hd : deadFree S.dead (frzL raw) = true)
    (k : evF E Q n (.ops 0 l ds (advT dr o S (retE r S.bx.length (frzL raw))) :: ks) (S.app o.dst (retE r S.bx.length (frzL raw)))) : CallG E Q o l ds dr ks S g raw caps := fun hf hdst => by
  obtain ⟨fo, as, ts, hop, hfo, hraw⟩ := hf
  refine GoK.loc hE ?_ hdst (evF_sound hE n _ _ k)
  have hfr : (as.toList.flatMap fun x => frzOf (evT S.tm x)) = frzL raw := by
    rw [frzL_eq, ← hraw, mapN_eq, List.flatMap_map]
  have hth : (as.toList.map fun x => thawF (nthB S.bx) (evT S.tm x)) ++ caps.map .pt = args := by
    rw [← hargs, thawL_eq, ← hraw, mapN_eq, mapN_eq, List.map_map]
    rfl
  unfold LoclS Locl
  rw [hop]
  simp only [hfo]
  rw [hfr]
  refine .inl ⟨deadFree_spec hd, r, by rw [hth]; exact hok, ?_⟩
  cases r <;> rfl
theorem IdxR.by (hE : EOk E) {rows : List (List C)} {sz : Nat} {j : Int} {row : List C} (n : Nat) (hj : 0 ≤ j) (hr : rows[j.toNat]? = some row) (hl : row.length = sz)
    (k : evF E Q n (.ops 0 l ds (advT dr o S { res := .pt row }) :: ks) (S.app o.dst { res := .pt row })) : IdxR E Q o l ds dr ks S rows sz j := fun hf hdst => by
  obtain ⟨t, x, y, i, e, ie, hop, hi, hs, hie, hn, hx, hsz⟩ := hf
  refine GoK.loc hE ?_ hdst (evF_sound hE n _ _ k)
  unfold LoclS Locl
  rw [hop]
  simp only [hx]
  exact .inr ⟨i, e, ie, j, hi, hs, hie, hn, hj, row, hr, by rw [hl, hsz], rfl⟩
theorem IdxO.by (hE : EOk E) {b : Nat} {rs : List (List C)} {sz : Nat} {j : Int} (n : Nat) (hj : 0 ≤ j) (hl : j < rs.length)
    (k : evF E Q n (.ops 0 l ds (advT dr o S { res := .optr b (j.toNat * sz) }) :: ks) (S.app o.dst { res := .optr b (j.toNat * sz) })) : IdxO E Q o l ds dr ks S b rs sz j := fun hf hdst => by
  obtain ⟨t, x, y, i, e, ie, e', hop, hi, hs, hie, hn, hx, hsz, hd, hb⟩ := hf
  refine GoK.loc hE ?_ hdst (evF_sound hE n _ _ k)
  unfold LoclS Locl
  rw [hop]
  simp only [hx, hb]
  exact .inr ⟨i, e, ie, j, hi, hs, hie, hn, hj, hd, hsz.symm, hl, by rw [hsz]⟩
theorem IdxS.by (hE : EOk E) {s : ByteArray} {j : Int} (n : Nat) (hj : 0 ≤ j) (hl : j < s.size)
    (k : evF E Q n (.ops 0 l ds (advT dr o S { res := .c (.sc (.int .u8 (byteAt s j.toNat))) }) :: ks) (S.app o.dst { res := .c (.sc (.int .u8 (byteAt s j.toNat))) })) : IdxS E Q o l ds dr ks S s j := fun hf hdst => by
  obtain ⟨t, x, y, i, hop, hi, hs, hn, hx⟩ := hf
  refine GoK.loc hE ?_ hdst (evF_sound hE n _ _ k)
  unfold LoclS Locl
  rw [hop]
  simp only [hx]
  exact ⟨i, j, hi, hs, hn, hj, hl, rfl⟩
theorem IdxA.by (hE : EOk E) {cs : List C} {sz m : Nat} {ag : Bool} {j : Int} (n : Nat) (h0 : 0 ≤ j) (hj : j < (m : Nat)) (hl : j.toNat * sz + sz ≤ cs.length) (h1 : ag = false → sz = 1)
    (k : evF E Q n (.ops 0 l ds (advT dr o S { res := aggOr ag (.agg (takeN sz (dropN (j.toNat * sz) cs))) (.c (nthC cs (j.toNat * sz))) }) :: ks) (S.app o.dst { res := aggOr ag (.agg (takeN sz (dropN (j.toNat * sz) cs))) (.c (nthC cs (j.toNat * sz))) })) : IdxA E Q o l ds dr ks S cs sz m ag j := fun hf hdst => by
  obtain ⟨t, x, y, i, e, hop, hi, har, hn, hx⟩ := hf
  refine GoK.loc hE ?_ hdst (evF_sound hE n _ _ k)
  unfold LoclS Locl
  rw [hop]
  simp only [hx]
  exact ⟨i, e, sz, m, ag, j, hi, har, hn, h0, hj, hl, h1, by rw [aggOr_eq, takeN_eq, dropN_eq, nthC_eq]⟩
theorem IdxP.by (hE : EOk E) {b o0 sz m : Nat} {j : Int} (n : Nat) (h0 : 0 ≤ j) (hj : j < (m : Nat))
    (k : evF E Q n (.ops 0 l ds (advT dr o S { res := .ptr b (o0 + j.toNat * sz) }) :: ks) (S.app o.dst { res := .ptr b (o0 + j.toNat * sz) })) : IdxP E Q o l ds dr ks S b o0 sz m j := fun hf hdst => by
  obtain ⟨t, x, y, i, e, ag, hop, hi, har, hn, hx⟩ := hf
  refine GoK.loc hE ?_ hdst (evF_sound hE n _ _ k)
  unfold LoclS Locl
  rw [hop]
  exact .inl ⟨i, e, sz, m, ag, j, b, o0, hi, har, hn, h0, hj, hx, rfl⟩
theorem LdO.by (hE : EOk E) {b off sz : Nat} {rs : List (List C)} {m : Nat} {ag : Bool} {j : Nat} {row : List C} (n : Nat) (hr : rs[j]? = some row) (hj : j * sz ≤ off) (hl : off - j * sz + m ≤ row.length)
    (k : evF E Q n (.ops 0 l ds (advT dr o S { res := aggOr ag (.agg (takeN m (dropN (off - j * sz) row))) (.c (nthC row (off - j * sz))) }) :: ks) (S.app o.dst { res := aggOr ag (.agg (takeN m (dropN (off - j * sz) row))) (.c (nthC row (off - j * sz))) })) : LdO E Q o l ds dr ks S b off sz rs m ag := fun hf hdst => by
  obtain ⟨t, x, i, e', hop, hi, hn, hag, h1, h0, hx, hd, hb⟩ := hf
  refine GoK.loc hE ?_ hdst (evF_sound hE n _ _ k)
  subst hn; subst hag
  unfold LoclS Locl
  rw [hop]
  simp only [hx, hb]
  exact ⟨i, hi, h1, h0, hd, j, row, hr, hj, hl, by rw [aggOr_eq, takeN_eq, dropN_eq, nthC_eq]⟩
theorem SlcR.by (hE : EOk E) {rows : List (List C)} {sz : Nat} {lo hi : Option Int} (n : Nat) (hr : rowLen sz rows) (h0 : 0 ≤ lo.getD 0) (h1 : lo.getD 0 ≤ hi.getD rows.length) (h2 : hi.getD rows.length ≤ rows.length)
    (k : evF E Q n (.ops 0 l ds (advT dr o S { res := .c (.sl ((rows.take (hi.getD rows.length).toNat).drop (lo.getD 0).toNat)) }) :: ks) (S.app o.dst { res := .c (.sl ((rows.take (hi.getD rows.length).toNat).drop (lo.getD 0).toNat)) })) : SlcR E Q o l ds dr ks S rows sz lo hi := fun hf hdst => by
  obtain ⟨t, x, lo', hi', i, e, ie, hop, hti, hs, hie, hn, hx, hl, hh⟩ := hf
  refine GoK.loc hE ?_ hdst (evF_sound hE n _ _ k)
  unfold LoclS Locl
  rw [hop]
  simp only [hx]
  refine ⟨i, e, ie, hti, hs, hie, by rw [hn]; exact hr, ?_⟩
  have hb : ∀ (d : Int) (y : Option Operand) (r : Option Int) (K : Int → Prop), (match y with | none => r = none | some y => ∃ k, r = some k ∧ numOf (evT S.tm y) = some k) → K (r.getD d) → boundK (evT S.tm) d y K := fun d y r K hy hK => by
    cases y with
    | none => simp only at hy; subst hy; exact hK
    | some y => obtain ⟨k, rfl, hk⟩ := hy; exact ⟨k, hk, hK⟩
  refine hb 0 lo' lo _ hl (hb rows.length hi' hi _ hh ⟨h0, h1, h2, by simp, ⟨Int.le_refl _, h2⟩, rfl⟩)
theorem SlcO.by (hE : EOk E) {b e sz : Nat} {rs : List (List C)} {h : Int} (n : Nat) (h0 : 0 ≤ h) (h1 : h ≤ rs.length)
    (k : evF E Q n (.ops 0 l ds (advT dr o S { res := .own S.bx.length, nw := some (.rows e sz (rs.take h.toNat)), kill := [b] }) :: ks) (S.app o.dst { res := .own S.bx.length, nw := some (.rows e sz (rs.take h.toNat)), kill := [b] })) : SlcO E Q o l ds dr ks S b e sz rs h := fun hf hdst => by
  obtain ⟨t, x, y, i, ie, hop, hi, hs, hie, hsz, hx, hd, hfz, hb, hn⟩ := hf
  refine GoK.loc hE ?_ hdst (evF_sound hE n _ _ k)
  unfold LoclS Locl
  rw [hop]
  simp only [hx, hb]
  exact ⟨i, e, ie, hi, hs, hie, hd, hfz, by trivial, by trivial, by trivial, hsz.symm, h, hn, h0, h1, rfl⟩
/-- What is put behind: the list that it is put behind, and whose box that was. -/
def dstE (bx : List Bx) (dead : List Nat) (e sz : Nat) : AV → Option (List (List C) × List Nat)
  | .nil => some ([], [])
  | .own b => if memB b dead = true then none else match nthB bx b with
    | some (.rows e' sz' rs) => if e' = e ∧ sz' = sz then some (rs, [b]) else none
    | _ => none
  | _ => none
def srcE (bx : List Bx) (dead : List Nat) (sz : Nat) : AV → Option (List (List C))
  | .nil => some []
  | .c (.sl xs) => some xs
  | .own b => if memB b dead = true then none else match nthB bx b with
    | some (.rows _ sz' xs) => if sz' = sz then some xs else none
    | _ => none
  | _ => none
def anyM (fz : List Nat) : List Nat → Bool
  | [] => false
  | b :: l => if memB b fz = true then true else anyM fz l
theorem anyM_eq (fz : List Nat) (l : List Nat) : anyM fz l = l.any fun b => fz.contains b := by
  induction l with
  | nil => rfl
  | cons b l ih =>
    simp only [anyM, List.any_cons]
    by_cases h : b ∈ fz
    · rw [if_pos ((memB_iff b fz).2 h)]; simp [h]
    · rw [if_neg (fun e => h ((memB_iff b fz).1 e)), ih]; simp [h]
def appE (S : St) (e sz : Nat) (rs xs : List (List C)) (kill : List Nat) : Eff := { res := .own S.bx.length, nw := some (.rows e sz (rs ++ xs)), kill, frz := if anyM S.fz kill = true then [S.bx.length] else [] }
theorem AppG.by (hE : EOk E) {x y : AV} {e sz bytes : Nat} {rs xs : List (List C)} {kill : List Nat} (n : Nat) (h1 : dstE S.bx S.dead e sz x = some (rs, kill)) (h2 : srcE S.bx S.dead sz y = some xs) (hr : rowLen sz xs)
    (hb : (rs.length + xs.length) * bytes ≤ 140737488355328)
    (k : evF E Q n (.ops 0 l ds (advT dr o S (appE S e sz rs xs kill)) :: ks) (S.app o.dst (appE S e sz rs xs kill))) : AppG E Q o l ds dr ks S x y e sz bytes := fun hf hdst => by
  obtain ⟨x', y', t, t', it, it', e', ie, hop, hi, hs, hi', hs', hie, hz, hb0, hn0, hbe, hne, hx, hy⟩ := hf
  refine GoK.loc hE ?_ hdst (evF_sound hE n _ _ k)
  unfold LoclS Locl
  rw [hop]
  simp only
  subst hbe; subst hne
  have hK : ∀ (K : List (List C) → List Nat → Prop), K rs kill → dstK (nthB S.bx) S.dead e ie.n (evT S.tm x') K := fun K hK => by
    rw [hx]
    cases x <;> simp only [dstE, reduceCtorEq] at h1
    case nil =>
      simp only [Option.some.injEq, Prod.mk.injEq] at h1
      obtain ⟨rfl, rfl⟩ := h1
      exact hK
    case own b =>
      split at h1
      · simp at h1
      · rename_i hd
        split at h1
        · rename_i e'' sz' rs' hbx
          split at h1
          · rename_i hc
            simp only [Option.some.injEq, Prod.mk.injEq] at h1
            obtain ⟨rfl, rfl⟩ := h1
            refine ⟨memB_not hd, ?_⟩
            rw [hbx]
            exact ⟨hc.1, hc.2, hK⟩
          · simp at h1
        · simp at h1
  have hS : ∀ (K : List (List C) → Prop), K xs → srcK (nthB S.bx) S.dead ie.n (evT S.tm y') K := fun K hK => by
    rw [hy]
    cases y <;> simp only [srcE, reduceCtorEq] at h2
    case nil =>
      simp only [Option.some.injEq] at h2
      subst h2
      exact hK
    case c z =>
      cases z <;> simp only [srcE, reduceCtorEq, Option.some.injEq] at h2
      subst h2
      exact ⟨hr, hK⟩
    case own b =>
      split at h2
      · simp at h2
      · rename_i hd
        split at h2
        · rename_i e'' sz' rs' hbx
          split at h2
          · rename_i hc
            simp only [Option.some.injEq] at h2
            subst h2
            refine ⟨memB_not hd, ?_⟩
            rw [hbx]
            exact ⟨hc, hr, hK⟩
          · simp at h2
        · simp at h2
  exact ⟨x', y', t, t', it, it', e, e', ie, by trivial, by trivial, hi, hs, hi', hs', hie, hz, hb0, hn0, hK _ (hS _ ⟨hb, by unfold appE; rw [anyM_eq]⟩)⟩
/-- Any operation, by what it does to states. -/
theorem HardOp.opK {K : St → Prop} (h : OpK E o S K) (hk : ∀ S', K S' → Go E Q (.ops 0 l ds none :: ks) S') : Go E Q (.ops 1 (o :: l) ds none :: ks) S := fun hn =>
  ⟨true, rfl, fun _ => h.mono fun S' hn' hK => hk S' hK hn', by simp⟩
theorem HardOp.opKd {K : St → Prop} {all : Array Oper} {acc : List TrK} (h : OpK E o (fin acc S) K) (hd : drawOk all (acc ++ [.st]) = true) (hk : ∀ S', K S' → Go E Q ks S') : Go E Q (.ops 1 (o :: []) ds (some (all, acc)) :: ks) S := fun hn =>
  ⟨true, rfl, fun _ => .inr (.inl ⟨rfl, hd, h.mono fun S' hn' hK => hk S' hK⟩), by simp⟩
/-- A store's place behind it. -/
def stE (tt : TT) (S : St) (t : Nat) (x y : AV) : Option (Nat × Bx) :=
  match tt t, x with
  | some i, .ptr b off => if memB b S.dead = true then none else if memB b S.fz = true then none else match nthB S.bx b, stOf (nthB S.bx) S.dead y with
    | some (.cells cs), some m => if m.length = i.n then if hasN cs (off + i.n) = true then some (b, .cells (takeN off cs ++ m ++ dropN (off + m.length) cs)) else none else none
    | _, _ => none
  | _, _ => none
theorem StG.opK (hE : EOk E) {t : Nat} {x y : AV} {b : Nat} {x' : Bx} (hf : ∃ x' y', o.op = .store t x' y' ∧ evT S.tm x' = x ∧ evT S.tm y' = y) (hdst : dstOk S.nt o.dst = true) (hn : E.n0 ≤ S.bx.length) (h : stE E.tt S t x y = some (b, x')) : OpK E o S fun S' => S' = S.setB o.dst b x' := by
  obtain ⟨xo, yo, hop, hx, hy⟩ := hf
  unfold stE at h
  split at h
  · rename_i i b' off hi
    split at h
    · simp at h
    · rename_i hd
      split at h
      · simp at h
      · rename_i hfz
        split at h
        · rename_i cs m hbx hm
          split at h
          · rename_i hml
            split at h
            · rename_i hl
              simp only [Option.some.injEq, Prod.mk.injEq] at h
              obtain ⟨rfl, rfl⟩ := h
              rw [← hy] at hm
              refine OpK.storePtr hE.hT hop hn hdst hi hx (memB_not hd) (memB_not hfz) hbx hm hml (hasN_spec _ _ hl) ?_
              rw [takeN_eq, dropN_eq]
            · simp at h
          · simp at h
        · simp at h
  · simp at h
theorem StG.by (hE : EOk E) {tt' : TT} (ht : E.tt = tt') {t : Nat} {x y : AV} {b : Nat} {x' : Bx} (n : Nat) (h : stE tt' S t x y = some (b, x')) (k : evF E Q n (.ops 0 l ds none :: ks) (S.setB o.dst b x')) : StG E Q o l ds none ks S t x y := fun hf hdst hn =>
  HardOp.opK (StG.opK hE hf hdst hn (by rw [ht]; exact h)) (fun S' e => by subst e; exact evF_sound hE n _ _ k) hn
theorem StG.byD (hE : EOk E) {tt' : TT} (ht : E.tt = tt') {all : Array Oper} {acc : List TrK} {t : Nat} {x y : AV} {b : Nat} {x' : Bx} (n : Nat) (h : stE tt' (fin acc S) t x y = some (b, x')) (hd : drawOk all (acc ++ [.st]) = true) (k : evF E Q n ks ((fin acc S).setB o.dst b x')) : StG E Q o [] ds (some (all, acc)) ks S t x y := fun hf hdst hn => by
  obtain ⟨xo, yo, hop, hx, hy⟩ := hf
  have e := (fin_nt acc S).2.1
  exact HardOp.opKd (StG.opK hE (x := x) (y := y) ⟨xo, yo, hop, by rw [e]; exact hx, by rw [e]; exact hy⟩ (by rw [(fin_nt acc S).1]; exact hdst) (by rw [(fin_nt acc S).2.2.2.2]; exact hn) (by rw [ht]; exact h)) hd (fun S' e => by subst e; exact evF_sound hE n _ _ k) hn
/-- A store in a region that draws its order; others may follow. -/
def stX (tt : TT) (S S1 : St) (t : Nat) (x y : AV) : Option (Nat × Bx) :=
  match tt t, x with
  | some i, .ptr b off => if memB b S.dead = true then none else if memB b S.fz = true then none else match nthB S1.bx b, plainV y with
    | some (.cells cs), some m => if m.length = i.n then if hasN cs (off + i.n) = true then some (b, .cells (takeN off cs ++ m ++ dropN (off + m.length) cs)) else none else none
    | _, _ => none
  | _, _ => none
theorem StG.byX (hE : EOk E) {tt' : TT} (ht : E.tt = tt') {all : Array Oper} {acc : List TrK} {t : Nat} {x y : AV} {b : Nat} {x' : Bx} (n : Nat) (hd : o.dst = none) (h : stX tt' S (fin acc S) t x y = some (b, x'))
    (k : evF E Q n (.ops 0 l ds (some (all, acc ++ [.sx b x'])) :: ks) S) : StG E Q o l ds (some (all, acc)) ks S t x y := fun hf hdst hn => by
  obtain ⟨xo, yo, hop, hx, hy⟩ := hf
  have hg := evF_sound hE n _ _ k hn
  refine ⟨true, rfl, fun _ => .inr (.inr ⟨b, x', ?_, hg⟩), by simp⟩
  rw [← ht] at h
  unfold stX at h
  split at h
  · rename_i i b' off hi
    split at h
    · simp at h
    · rename_i hdd
      split at h
      · simp at h
      · rename_i hfz
        split at h
        · rename_i cs m hbx hm
          split at h
          · rename_i hml
            split at h
            · rename_i hl
              simp only [Option.some.injEq, Prod.mk.injEq] at h
              obtain ⟨rfl, rfl⟩ := h
              exact ⟨hd, memB_not hdd, memB_not hfz, t, xo, yo, i, _, hop, hi, hbx, .inl ⟨off, cs, m, hx, rfl, by rw [hy]; exact hm, hml, hasN_spec _ _ hl, by rw [takeN_eq, dropN_eq]⟩⟩
            · simp at h
          · simp at h
        · simp at h
  · simp at h
end
end Go.Vam

/- An abstract machine over data (part 14): contracts out of runs, loops in runs. -/
namespace Go.Vam
open Go.RowKit
set_option linter.unusedVariables false
set_option linter.unusedSimpArgs false

/-- What a function's end asks. -/
def RetQ (tt : TT) (res : List ResultVar) (r : Ret) : Exit → St → Prop := fun e S => (e = .normal ∨ e = .ret) ∧ RetK tt S res r
theorem Ok.code {P : Program} {tt : TT} (hT : TOk P tt) (hm : P.follows .mixedOrders = true) {f : FuncId} {fn : Func} {c : Code} {args : List AV} {r : Ret} (hf : P.funcs[f]? = some fn) (hb : fn.body = some c) (hname : (fn.name == "runtime.NumGoroutine") = false)
    (nt : Nat) (rs : List ResultVar) (hnt : fn.ntmps = nt) (hrs : fn.results.toList = rs) (hl : args.length ≤ nt) (h : ∀ E : En, EOk E → E.P = P → E.tt = tt → E.n0 = 0 → E.rd = none → Go E (RetQ tt rs r) [.code c] ⟨nt, argsT 0 args, [], [], []⟩) : Ok P f args r := by
  subst hnt; subst hrs
  refine Ok.of_body hT hf hb hname hl fun E hP ht h0 hrd hb1 hb2 => ?_
  have := h E ⟨by rw [hP, ht]; exact hT, by rw [hP]; exact hm, hb1, hb2⟩ hP ht h0 hrd (by simp [h0])
  refine AWP.mono this fun e S hn hq => ?_
  cases e <;> exact hq
theorem RetQ.val {tt : TT} {t : Nat} {e : Exit} {S : St} {x z : AV} (he : e = .normal ∨ e = .ret) (hx : look S.tm t = x) (hd : deadFree S.dead (frzOf x) = true) (hz : thawF (nthB S.bx) x = z) : RetQ tt [.tmp t] (.v z) e S :=
  ⟨he, x, by simp only [resV, hx], deadFree_spec hd, hz.symm⟩
theorem RetQ.own {tt : TT} {t b e' sz : Nat} {rs : List (List C)} {e : Exit} {S : St} (he : e = .normal ∨ e = .ret) (hx : look S.tm t = .own b) (hd : memB b S.dead = false) (hf : memB b S.fz = false) (hb : nthB S.bx b = some (.rows e' sz rs)) : RetQ tt [.tmp t] (.own e' sz rs) e S :=
  ⟨he, .own b, by simp only [resV, hx], memB_not (by rw [hd]; simp), memB_not (by rw [hf]; simp), hb⟩
theorem RetQ.nil {tt : TT} {t e' sz : Nat} {e : Exit} {S : St} (he : e = .normal ∨ e = .ret) (hx : look S.tm t = .nil) : RetQ tt [.tmp t] (.own e' sz []) e S :=
  ⟨he, .nil, by simp only [resV, hx], rfl⟩
theorem RetQ.bool {tt : TT} {t : Nat} {e : Exit} {S : St} {b b' : Bool} (he : e = .normal ∨ e = .ret) (hx : look S.tm t = .c (.sc (.bool b))) (hb : b = b') : RetQ tt [.tmp t] (.v (.c (.sc (.bool b')))) e S := by
  subst hb
  exact .val he hx rfl rfl
theorem RetQ.c {tt : TT} {t : Nat} {e : Exit} {S : St} {x y : C} (he : e = .normal ∨ e = .ret) (hx : look S.tm t = .c x) (hb : x = y) : RetQ tt [.tmp t] (.v (.c y)) e S := by
  subst hb
  exact .val he hx rfl rfl
theorem RetQ.agg {tt : TT} {t : Nat} {e : Exit} {S : St} {x y : List C} (he : e = .normal ∨ e = .ret) (hx : look S.tm t = .agg x) (hb : x = y) : RetQ tt [.tmp t] (.v (.agg y)) e S := by
  subst hb
  exact .val he hx rfl rfl
theorem RetQ.ownV {tt : TT} {t b e' sz : Nat} {rs rs' : List (List C)} {e : Exit} {S : St} (he : e = .normal ∨ e = .ret) (hx : look S.tm t = .own b) (hd : memB b S.dead = false) (hb : nthB S.bx b = some (.rows e' sz rs)) (hr : rs = rs') : RetQ tt [.tmp t] (.v (.c (.sl rs'))) e S := by
  subst hr
  refine .val he hx ?_ ?_
  · simp [frzOf, deadFree, hd]
  · simp [thawF, hb]
/-- A struct that is told out of its variable. -/
theorem RetQ.cell {tt : TT} {t ty b off : Nat} {i : TyI} {cs : List AV} {cs' : List C} {e : Exit} {S : St} (he : e = .normal ∨ e = .ret) (hx : look S.tm t = .ptr b off) (hi : tt ty = some i) (hd : memB b S.dead = false) (hb : nthB S.bx b = some (.cells cs))
    (hag : i.ag = true) (hn : Nat.ble 1 i.n = true) (hl : hasN cs (off + i.n) = true) (hc : allB isC (takeN i.n (dropN off cs)) = true) (hr : mapN toC (takeN i.n (dropN off cs)) = cs') : RetQ tt [.cell t ty] (.v (.agg cs')) e S := by
  refine ⟨he, .agg cs', ?_, by simp [frzOf], rfl⟩
  simp only [resV, hx, hi]
  rw [if_neg (memB_not (by rw [hd]; simp)), hb]
  simp only
  rw [allB_eq, takeN_eq, dropN_eq] at hc
  rw [if_pos ⟨hasN_spec _ _ hl, Nat.le_of_ble_eq_true hn, fun h => by rw [hag] at h; simp at h, fun _ => hc⟩, if_pos hag, ← hr, mapN_eq, takeN_eq, dropN_eq]

/-! ### Loops -/
theorem wrap64 {n : Int} (h1 : -9223372036854775808 ≤ n) (h2 : n ≤ 9223372036854775807) : IntKind.i64.wrap n = n := by
  rw [IntKind.wrap_i64]
  omega
theorem wrapN (i : Nat) (h : i < 9223372036854775807) : IntKind.i64.wrap ((i : Int) + 1) = (i : Int) + 1 := wrap64 (by omega) (by omega)
theorem wrapP (i : Int) (h0 : 0 ≤ i) (h : i ≤ 9223372036854775807) : IntKind.i64.wrap (i - 1) = i - 1 := wrap64 (by omega) (by omega)
theorem Loop.by {ι : Type} {E : En} (hE : EOk E) {Q : Exit → St → Prop} {c : Code} {ks : List Fr} {S : St} (I : ι → St) (μ : ι → Nat) (i0 : ι) (n : Nat) (h0 : ∃ σ, Wk E.n0 S (I i0) σ) (hn : ∀ i, E.n0 ≤ (I i).bx.length)
    (round : ∀ i, evF E Q n (.code c :: .lp (fun S' => ∃ j σ, Wk E.n0 S' (I j) σ ∧ μ j < μ i) :: ks) (I i)) : Go E Q (.code (.loop c) :: ks) S := fun _ =>
  AWP.loop I μ i0 h0 fun i => AWP.mono (evF_sound hE n _ _ (round i) (hn i)) fun e S' hn' hq => by
    cases e <;> exact hq
theorem Wk.of {S S' : St} {n0 : Nat} {σ : List Nat} (nt : S'.nt = S.nt) (nod : σ.Nodup) (fix : fixB n0 σ 0) (tm : wkT S'.bx.length σ S.tm S'.tm) (bx : wkBs S'.bx.length σ S S' 0 σ S'.bx) (fl : ∀ b ∈ S'.fz, b < S'.bx.length) (dl : ∀ b ∈ S'.dead, b < S'.bx.length) : Wk n0 S S' σ := ⟨nt, nod, fix, tm, bx, fl, dl⟩
section
variable {E : En} {Q : Exit → St → Prop} {o : Oper} {l : List Oper} {ds : List (Option Nat)} {dr : Dr} {ks : List Fr} {S : St}
theorem IdxR.nat (hE : EOk E) {α : Type} {f : α → List C} {xs : List α} {sz i : Nat} (n : Nat) (hi : i < xs.length) (hl : (f xs[i]).length = sz)
    (k : evF E Q n (.ops 0 l ds (advT dr o S { res := .pt (f xs[i]) }) :: ks) (S.app o.dst { res := .pt (f xs[i]) })) : IdxR E Q o l ds dr ks S (xs.map f) sz (i : Int) :=
  IdxR.by hE n (by omega) (by simp [hi]) hl k
theorem OpK.isNil (hE : EOk E) {rows : List (List C)} {K : St → Prop} (hf : ∃ t x' y u i e, o.op = .binOp .eql t x' y u ∧ E.tt t = some i ∧ i.sl = some e ∧ evT S.tm x' = .c (.sl rows) ∧ evT S.tm y = .nil) (hdst : dstOk S.nt o.dst = true) (hn : E.n0 ≤ S.bx.length)
    (hK : ∀ b : Bool, (b = true → rows = []) → K (S.app o.dst { res := .c (.sc (.bool b)) })) : OpK E o S K := fun Z β a w hs => by
  obtain ⟨t, x', y, u, i, e, hop, hi, hsl, hx, hy⟩ := hf
  have hx' := hs.evT x'
  have hy' := hs.evT y
  rw [hx] at hx'
  rw [hy] at hy'
  refine op_isNil hop ((tyOk_spec (hE.hT t i hi)).2.2.1 e hsl) hx' hy' fun b hb => ?_
  have hp : Post E.base w Z β (fun b => b < S.bx.length) (fun b => b < S.bx.length ∧ b ∉ S.dead) (fun b => b ∈ S.fz) (nthB (S.app o.dst { res := .c (.sc (.bool b)) }).bx) S.bx.length { res := .c (.sc (.bool b)) } w (.bool b) w :=
    ⟨Z, β, .refl _ _, fun _ _ => rfl, fun a h1 h2 => absurd h1 h2, hs.wr.rebase.mono (fun _ h => .inl h) (fun b h => by
      rcases h with h | h
      · exact h.1
      · simp at h) (fun _ h => .inl h) (fun b _ => rfl), .c _ _ (.sc _ rfl)⟩
  obtain ⟨Z', β', h1, h2, h3⟩ := hs.put hdst hp (by simp) (by simp)
  exact ⟨_, Z', β', h1, h2.mono hn, Nat.le_trans hn h3, hK b hb⟩
theorem IsNilG.sl (hE : EOk E) {rows : List (List C)} (n : Nat) (k : ∀ b : Bool, (b = true → rows = []) → evF E Q n (.ops 0 l ds none :: ks) (S.app o.dst { res := .c (.sc (.bool b)) })) : IsNilG E Q o l ds none ks S (.c (.sl rows)) := fun hf hdst hn =>
  HardOp.opK (K := fun S' => ∃ b : Bool, (b = true → rows = []) ∧ S' = S.app o.dst { res := .c (.sc (.bool b)) }) (OpK.isNil hE hf hdst hn fun b hb => ⟨b, hb, rfl⟩) (fun S' ⟨b, hb, e⟩ => by subst e; exact evF_sound hE n _ _ (k b hb)) hn
end
end Go.Vam

/- An abstract machine over data (part 15): calls that are run where they stand; ranges over functions. -/
namespace Go.Vam
open Go.RowKit
set_option linter.unusedVariables false
set_option linter.unusedSimpArgs false

/-! ### 1. A state without temporaries -/
structure WSim (E : En) (bx : List Bx) (dead fz : List Nat) (Z : Zone) (β : Nat → Value) (w : World) : Prop where
  wr : WR E.base E.w0 Z β (fun b => b < bx.length) (fun b => b < bx.length ∧ b ∉ dead) (fun b => b ∈ fz) (nthB bx) w
  z0 : ∀ a, E.Z0 a → Z a
  zn : ∀ a, Z a → ¬ E.Z0 a → E.base ≤ a.block
  fl : ∀ b, b ∈ fz → b < bx.length
  dl : ∀ b, b ∈ dead → b < bx.length
theorem Sim.w {E : En} {S : St} {Z : Zone} {β : Nat → Value} {a : Act} {w : World} (h : Sim E S Z β a w) : WSim E S.bx S.dead S.fz Z β w := ⟨h.wr, h.z0, h.zn, h.fl, h.dl⟩
theorem WSim.sim {E : En} {nt : Nat} {tm : List (Nat × AV)} {bx : List Bx} {dead fz : List Nat} {Z : Zone} {β : Nat → Value} {a : Act} {w : World} (h : WSim E bx dead fz Z β w) (hsz : a.tmps.size = nt)
    (ht : ∀ t, AR Z w β (fun b => b < bx.length) (look tm t) (a.tmps.getD t undef)) (hd : Marks E.mb a w) : Sim E ⟨nt, tm, bx, dead, fz⟩ Z β a w := ⟨⟨h.wr, h.z0, h.zn, hsz, ht, hd⟩, h.fl, h.dl⟩
theorem WSim.congr {E E' : En} {bx : List Bx} {dead fz : List Nat} {Z : Zone} {β : Nat → Value} {w : World} (h : WSim E bx dead fz Z β w) (h1 : E'.base = E.base) (h2 : E'.w0 = E.w0) (h3 : E'.Z0 = E.Z0) : WSim E' bx dead fz Z β w :=
  ⟨by rw [h1, h2]; exact h.wr, by rw [h3]; exact h.z0, by rw [h3, h1]; exact h.zn, h.fl, h.dl⟩
/-- Behind a call: the caller's temporaries are as they were. -/
theorem After.behind {E : En} {S : St} {Z Z' : Zone} {β β' : Nat → Value} {a : Act} {w w' : World} {d : Option Nat} {v : Value} {r : AV} {bx' : List Bx} {dead' fz' : List Nat} {K : St → Prop}
    (hs : Sim E S Z β a w) (hn : E.n0 ≤ S.bx.length) (hd : dstOk S.nt d = true) (hw : WSim E bx' dead' fz' Z' β' w') (he : Evo S.bx.length Z β Z' β' w w') (hl : S.bx.length ≤ bx'.length)
    (hr : AR Z' w' β' (fun b => b < bx'.length) r v) (hK : K ⟨S.nt, putT S.tm d r, bx', dead', fz'⟩) : After E E.n0 Z β w K (a.put d v) w' := by
  refine ⟨_, Z', β', hw.sim (by rw [put_size, hs.tsz]) (fun t => ?_) (hs.df.kept (put_defers _ _ _) he.kd), he.mono hn, Nat.le_trans hn hl, hK⟩
  rw [look_put]
  have hold : AR Z' w' β' (fun b => b < bx'.length) (look S.tm t) (a.tmps.getD t undef) := (hs.tr t).ext he.ext fun b hb => ⟨Nat.lt_of_lt_of_le hb hl, he.same b hb⟩
  by_cases hdt : d = some t
  · subst hdt
    have hlt : t < a.tmps.size := by rw [hs.tsz]; simpa [dstOk] using hd
    rw [put_get _ _ _ _ hlt, if_pos rfl, if_pos rfl]
    exact hr
  · rw [if_neg hdt]
    by_cases hlt : t < a.tmps.size
    · rwa [put_get _ _ _ _ hlt, if_neg hdt]
    · have e1 : (a.put d v).tmps.getD t undef = a.tmps.getD t undef := by
        have hs' : ¬ t < (a.put d v).tmps.size := by rw [put_size]; exact hlt
        simp [Array.getElem?_eq_none (Nat.le_of_not_lt hlt), Array.getElem?_eq_none (Nat.le_of_not_lt hs')]
      rwa [e1]

/-! ### 2. Calls that are run where they stand -/
def retA : List AV → AV
  | [y] => y
  | ys => .tup ys
def InlC (E : En) (g : FuncId) (args : List AV) (S : St) (K : AV → List Bx → List Nat → List Nat → Prop) : Prop :=
  Enters E.P g ∧ ∀ Z β w (vs : Array Value), WSim E S.bx S.dead S.fz Z β w → E.mb ≤ w.heap.size → vs.size = args.length → (∀ (i : Nat) (x : AV) (v : Value), args[i]? = some x → vs[i]? = some v → AR Z w β (fun b => b < S.bx.length) x v) →
    Calls E.P g vs w fun e w' => ∃ v bx' dead' fz' Z' β' r, e = .returned v ∧ WSim E bx' dead' fz' Z' β' w' ∧ Evo S.bx.length Z β Z' β' w w' ∧ S.bx.length ≤ bx'.length ∧ AR Z' w' β' (fun b => b < bx'.length) r v ∧ K r bx' dead' fz'
theorem InlC.of_body {E : En} (hE : EOk E) {g : FuncId} {fn : Func} {c : Code} {args : List AV} {S : St} {K : AV → List Bx → List Nat → List Nat → Prop} (hf : E.P.funcs[g]? = some fn) (hb : fn.body = some c) (hname : (fn.name == "runtime.NumGoroutine") = false)
    (hnt : args.length ≤ fn.ntmps) (h : ∀ E' : En, EOk E' → E'.P = E.P → E'.tt = E.tt → E'.n0 = S.bx.length → E'.rd = none → AWP E' c ⟨fn.ntmps, argsT 0 args, S.bx, S.dead, S.fz⟩ (fun e S' => (e = .normal ∨ e = .ret) ∧ ∃ ys, resVs E.tt S' fn.results.toList = some ys ∧ K (retA ys) S'.bx S'.dead S'.fz)) : InlC E g args S K := by
  refine ⟨fun vs w => ?_, fun Z β w vs hw hmb hsz hA => ?_⟩
  · simp only [callFunc, Sem.run_bind, run_program, Result.andThen_ok, hf, hname, hb, Option.isNone_some, Bool.false_eq_true, if_false, Sem.run_pure]
  · refine (callsIn_wide (n := 0)).1 (callsIn_of_wp_marks hf hb trivial ?_)
    let E' : En := { E with n0 := S.bx.length, rd := none, mb := w.heap.size }
    have hE' : EOk E' := ⟨hE.hT, hE.hm, hE.hb, hw.wr.hbase⟩
    have hs : Sim E' ⟨fn.ntmps, argsT 0 args, S.bx, S.dead, S.fz⟩ Z β { tmps := vs ++ Array.replicate (fn.ntmps - vs.size) undef, defers := [] } w := by
      refine (hw.congr (E' := E') rfl rfl rfl).sim (by simp only [Array.size_append, Array.size_replicate]; omega) (fun t => ?_) (.none (Nat.le_refl _))
      rw [argsT_look, if_pos (Nat.zero_le _), Nat.sub_zero]
      cases hx : args[t]? with
      | none => exact .any _
      | some x =>
        have hlt : t < args.length := (List.getElem?_eq_some_iff.1 hx).1
        have hv : vs[t]? = some (vs[t]'(by omega)) := Array.getElem?_eq_getElem (by omega)
        have hg : (vs ++ Array.replicate (fn.ntmps - vs.size) undef).getD t undef = vs[t]'(by omega) := by
          rw [Array.getD_eq_getD_getElem?, Array.getElem?_append_left (by omega), hv]
          rfl
        rw [hg]
        exact hA t x _ hx hv
    have hwp := h E' hE' rfl rfl rfl rfl Z β _ w hs
    refine wpIn_mono hwp fun e a' w1 ⟨S', Z', β', h0, h20, h3, h4⟩ => ?_
    obtain ⟨he, ys, hys, hK⟩ := h4
    suffices hL : LeavesInM Fence.wide 0 E.P fn a'.tmps (fun e w' => ∃ v bx' dead' fz' Z' β' r, e = .returned v ∧ WSim E bx' dead' fz' Z' β' w' ∧ Evo S.bx.length Z β Z' β' w w' ∧ S.bx.length ≤ bx'.length ∧ AR Z' w' β' (fun b => b < bx'.length) r v ∧ K r bx' dead' fz') a'.defers .returning w1 by
      rcases he with rfl | rfl
      · exact hL
      · exact hL
    obtain ⟨hmb1, ms, hm1, hm2, hm3⟩ := h0.df
    rw [hm1]
    refine leaves_marks ms w1 hm2 (fun D h => (hm3 D h).2) fun w' htk => ?_
    have hmb' : E.base ≤ w.heap.size := hw.wr.hbase
    obtain ⟨h1, hext⟩ := h0.taken hE'.hb htk fun D hD => ⟨Nat.le_trans hmb' (hm3 D hD).1, (hm3 D hD).2⟩
    obtain ⟨vs', r1, l1, a1⟩ := resVs_sound (E := E') hE'.hT h1 hys
    have hres := results_run (P := E.P) (fn := fn) (tmps := a'.tmps) (w := w') (vs := vs') r1
    refine ⟨_, hres, _, S'.bx, S'.dead, S'.fz, Z', β', retA ys, rfl, h1.w.congr rfl rfl rfl, ⟨h20.ext.trans hext, h20.same, ⟨Nat.le_trans h20.kd.size (Nat.le_of_eq htk.size.symm), fun k hk => ?_⟩⟩, h3, ?_, hK⟩
    · have hkl : k < w.heap.size := (Array.getElem?_eq_some_iff.1 hk).1
      have hkm : k ∉ ms := fun hm => by have h5 : w.heap.size ≤ k := (hm3 k hm).1; omega
      rw [htk.other k hkm]
      exact h20.kd.same k hk
    · match ys, l1, a1 with
      | [y], l1, a1 =>
        have hl : vs'.length = 1 := l1
        obtain ⟨v, rfl⟩ := List.length_eq_one_iff.1 hl
        rw [dif_pos (by simp)]
        exact a1 0 y v rfl rfl
      | [], l1, a1 =>
        have hl : vs' = [] := List.eq_nil_of_length_eq_zero l1
        subst hl
        rw [dif_neg (by simp)]
        exact .tup _ _ rfl (fun i x v e1 e2 => by simp at e1)
      | y1 :: y2 :: ys, l1, a1 =>
        rw [dif_neg (by simp [l1])]
        exact .tup _ _ (by simp [l1]) (fun i x v e1 e2 => a1 i x v e1 (by simpa using e2))

def fnOf : AV → Option (FuncId × List AV × List AV)
  | .c (.fn g caps) => some (g, [], mapN .pt caps)
  | .clo g first caps => some (g, first, caps)
  | _ => none
theorem fnOf_AR {Z : Zone} {w : World} {β : Nat → Value} {cr : Nat → Prop} {x : AV} {v : Value} {g : FuncId} {first caps : List AV} (h : AR Z w β cr x v) (hf : fnOf x = some (g, first, caps)) :
    ∃ fs cs : Array Value, v = .func (.func g) fs cs ∧ fs.size = first.length ∧ cs.size = caps.length ∧ (∀ (i : Nat) (x : AV) (v : Value), first[i]? = some x → fs[i]? = some v → AR Z w β cr x v) ∧ (∀ (i : Nat) (x : AV) (v : Value), caps[i]? = some x → cs[i]? = some v → AR Z w β cr x v) := by
  cases h with
  | c x v h =>
    cases h with
    | sc v h => simp [fnOf] at hf
    | sl => simp [fnOf] at hf
    | fn g' caps' ps vals hl hc hv =>
      simp only [fnOf, Option.some.injEq, Prod.mk.injEq] at hf
      obtain ⟨rfl, rfl, rfl⟩ := hf
      refine ⟨_, _, rfl, rfl, by simp [mapN_eq, hl], by simp, fun i x v e1 e2 => ?_⟩
      rw [mapN_eq, List.getElem?_map] at e1
      simp only [List.getElem?_toArray, List.getElem?_map] at e2
      cases h1 : caps'[i]? with
      | none => rw [h1] at e1; simp at e1
      | some cs =>
        cases h2 : ps[i]? with
        | none => rw [h2] at e2; simp at e2
        | some ad =>
          rw [h1] at e1
          rw [h2] at e2
          simp only [Option.map_some, Option.some.injEq] at e1 e2
          subst e1; subst e2
          exact .pt cs ad (vals i) (fun k hk => hc i ad cs h2 h1 k hk) (fun k c hk => hv i cs k c h1 hk)
  | clo g' f c fs cs hl hl' h h' =>
    simp only [fnOf, Option.some.injEq, Prod.mk.injEq] at hf
    obtain ⟨rfl, rfl, rfl⟩ := hf
    exact ⟨fs, cs, rfl, hl, hl', h, h'⟩
  | any | und | agg | pt | ptr | own | optr | osl | nil | tup | yld => simp [fnOf] at hf
theorem append_AR {Z : Zone} {w : World} {β : Nat → Value} {cr : Nat → Prop} {l m : List AV} {vs us : Array Value} (hl : vs.size = l.length)
    (h1 : ∀ (i : Nat) (x : AV) (v : Value), l[i]? = some x → vs[i]? = some v → AR Z w β cr x v) (h2 : ∀ (i : Nat) (x : AV) (v : Value), m[i]? = some x → us[i]? = some v → AR Z w β cr x v) :
    ∀ (i : Nat) (x : AV) (v : Value), (l ++ m)[i]? = some x → (vs ++ us)[i]? = some v → AR Z w β cr x v := fun i x v e1 e2 => by
  by_cases hi : i < l.length
  · rw [List.getElem?_append_left hi] at e1
    rw [Array.getElem?_append_left (by omega)] at e2
    exact h1 i x v e1 e2
  · rw [List.getElem?_append_right (by omega)] at e1
    rw [Array.getElem?_append_right (by omega), hl] at e2
    exact h2 _ x v e1 e2
theorem OpK.inl {E : En} (hE : EOk E) {o : Oper} {S : St} {K : St → Prop} {fo : Operand} {as : Array Operand} {ts : Array TypeId} {g : FuncId} {first caps : List AV} (ho : o.op = .call { callee := .value fo, args := as, argTypes := ts })
    (hf : fnOf (evT S.tm fo) = some (g, first, caps)) (hd : dstOk S.nt o.dst = true) (hn : E.n0 ≤ S.bx.length)
    (h : InlC E g (first ++ mapN (evT S.tm) as.toList ++ caps) S (fun r bx' dead' fz' => K ⟨S.nt, putT S.tm o.dst r, bx', dead', fz'⟩)) : OpK E o S K := fun Z β a w hs => by
  obtain ⟨hent, hc⟩ := h
  obtain ⟨fs, cs, hv, l1, l2, A1, A2⟩ := fnOf_AR (hs.evT fo) hf
  have hrun : (execOp a.eval o).run E.P w = .ok (.enter g (fs ++ as.map a.eval ++ cs)) w := by
    have h2 : (callFunc g (fs ++ as.map a.eval ++ cs)).run E.P w = .ok (.enter g (fs ++ as.map a.eval ++ cs)) w := hent _ w
    simp only [execOp, ho, resolve, hv, Deferred.ofValue, invoke, Sem.run_bind, Sem.run_pure, Result.andThen_ok, h2]
  unfold OpRun
  rw [hrun]
  refine (hc Z β w _ hs.w hs.df.1 (by simp [l1, l2, mapN_eq]) ?_).mono ?_
  · refine append_AR (by simp [l1, mapN_eq]) (append_AR l1 A1 fun i x v e1 e2 => ?_) A2
    rw [mapN_eq, List.getElem?_map] at e1
    rw [Array.getElem?_map] at e2
    cases hx : as[i]? with
    | none => rw [hx] at e2; simp at e2
    | some y =>
      rw [Array.getElem?_toList, hx] at e1
      rw [hx] at e2
      simp only [Option.map_some, Option.some.injEq] at e1 e2
      subst e1; subst e2
      exact hs.evT y
  · rintro e w' ⟨v, bx', dead', fz', Z', β', r, rfl, k1, k2, k3, k4, k5⟩
    exact ⟨v, rfl, After.behind hs hn hd k1 k2 k3 k4 k5⟩

/-! ### 3. Loop records -/
theorem WSim.putLp {E : En} (hE : EOk E) {bx : List Bx} {dead fz : List Nat} {Z : Zone} {β : Nat → Value} {w : World} (hs : WSim E bx dead fz Z β w) {b nt : Nat} {tm : List (Nat × AV)} {ps : List Nat} {assign body : Code} {st : LoopState} {pend : Option Code}
    (hb : b ∉ dead) (hbx : nthB bx b = some (.lp nt tm ps assign body st pend)) :
    ∃ g rec, β b = .pointer (some ⟨g, 0, none⟩) ∧ w.heap[g]? = some (.loop rec) ∧ rec.params.toList = ps ∧ rec.assign = assign ∧ rec.body = body ∧ rec.state = st ∧ rec.pending = pend ∧ rec.tmps.size = nt ∧ (∀ t, AR Z w β (fun b => b < bx.length) (look tm t) (rec.tmps.getD t undef)) ∧
      ∀ (st' : LoopState) (pend' : Option Code), WSim E (setBx bx b (.lp nt tm ps assign body st' pend')) dead fz Z β (w.putObj g (.loop { rec with state := st', pending := pend' })) ∧ Ext Z Z w (w.putObj g (.loop { rec with state := st', pending := pend' })) ∧ KeepsD w (w.putObj g (.loop { rec with state := st', pending := pend' })) := by
  have hbl : b < bx.length := by rw [nthB_eq] at hbx; exact (List.getElem?_eq_some_iff.1 hbx).1
  obtain ⟨x, hx, hB⟩ := hs.wr.box b ⟨hbl, hb⟩
  rw [hbx] at hx
  injection hx with hx
  subst hx
  cases hB with
  | lp _ _ _ _ _ _ _ g rec hv hg hh hps has hbd hst hpd hsz hc hz =>
    have hgl : g < w.heap.size := (Array.getElem?_eq_some_iff.1 hh).1
    refine ⟨g, rec, hv, hh, hps, has, hbd, hst, hpd, hsz, hc, fun st' pend' => ?_⟩
    generalize hw' : w.putObj g (.loop { rec with state := st', pending := pend' }) = w'
    have hgr : w.grownBy w' (some g) := by rw [← hw']; exact grownBy_putObj' w g _
    have he : Ext Z Z w w' := ext_of_grown hgr hs.wr.zin (fun a ha e => hz a ha (by simpa using e))
    have hnew : w'.heap[g]? = some (.loop { rec with state := st', pending := pend' }) := by rw [← hw']; exact World.putObj_heap_same hgl
    have hlen : (setBx bx b (.lp nt tm ps assign body st' pend')).length = bx.length := by simp [setBx_eq]
    have e1 : (fun c => c < (setBx bx b (.lp nt tm ps assign body st' pend')).length) = fun c => c < bx.length := by rw [hlen]
    have e2 : (fun c => c < (setBx bx b (.lp nt tm ps assign body st' pend')).length ∧ c ∉ dead) = fun c => c < bx.length ∧ c ∉ dead := by rw [hlen]
    refine ⟨⟨?_, hs.z0, hs.zn, fun c hc => by rw [hlen]; exact hs.fl c hc, fun c hc => by rw [hlen]; exact hs.dl c hc⟩, he, ⟨hgr.size, fun k hk => ?_⟩⟩
    · rw [e1, e2]
      refine ⟨hs.wr.below.grown hgr hs.wr.hbase (fun k e => by injection e with e; omega), Nat.le_trans hs.wr.hbase hgr.size, fun a ha => Nat.lt_of_lt_of_le (hs.wr.zin a ha) hgr.size, hs.wr.zsp, fun c hc' => ?_, hs.wr.dis, hs.wr.sub, ⟨Nat.le_trans hs.wr.oth.size hgr.size, fun k o hk ho => ?_⟩⟩
      · by_cases hcb : c = b
        · subst hcb
          refine ⟨_, by rw [nthB_eq, setBx_eq, List.getElem?_set_self hbl], ?_⟩
          exact .lp _ _ _ _ _ _ _ g _ hv hg hnew hps has hbd rfl rfl hsz (fun t => (hc t).ext he fun _ h => ⟨h, rfl⟩) hz
        · obtain ⟨y, hy, hB'⟩ := hs.wr.box c hc'
          refine ⟨y, by rw [nthB_eq] at hy ⊢; rw [setBx_eq, List.getElem?_set_ne (fun e => hcb e.symm)]; exact hy, hB'.ext he (fun b h => ⟨h, rfl⟩) hc'.1 (fun g' hg' => hgr.block g' (hB'.blk_base hg').2 (fun e => ?_)) (fun g' hg' a ha e => .inl ha) id⟩
          injection e with e
          subst e
          exact hs.wr.dis c b g' hc' ⟨hbl, hb⟩ hcb hg' (by rw [hv]; rfl)
      · have hk' := hs.wr.oth.same k o hk ho
        refine (hgr.block k (Array.getElem?_eq_some_iff.1 hk').1 (fun e => ?_)).trans hk'
        injection e with e
        have h1 := (Array.getElem?_eq_some_iff.1 hk).1
        have h2 := hE.hb
        omega
    · refine (hgr.block k (Array.getElem?_eq_some_iff.1 hk).1 (fun e => ?_)).trans hk
      injection e with e
      subst e
      rw [hh] at hk
      simp at hk
/-- A record is laid. -/
theorem Sim.newLp {E : En} {S : St} {Z : Zone} {β : Nat → Value} {a : Act} {w : World} (hs : Sim E S Z β a w) (fn : FuncId) (ps : Array Tmp) (assign body : Code) :
    ∃ β' : Nat → Value, WSim E (S.bx ++ [.lp S.nt S.tm ps.toList assign body .ready none]) S.dead S.fz Z β' ((w.alloc (.deferred (some []))).alloc (.loop { state := .ready, pending := none, fn, tmps := a.tmps, params := ps, assign, body, defers := w.heap.size })) ∧
      Evo S.bx.length Z β Z β' w ((w.alloc (.deferred (some []))).alloc (.loop { state := .ready, pending := none, fn, tmps := a.tmps, params := ps, assign, body, defers := w.heap.size })) ∧
      β' S.bx.length = .pointer (some ⟨w.heap.size + 1, 0, none⟩) ∧ ((w.alloc (.deferred (some []))).alloc (.loop { state := .ready, pending := none, fn, tmps := a.tmps, params := ps, assign, body, defers := w.heap.size })).heap[w.heap.size]? = some (.deferred (some [])) := by
  generalize hrec : ({ state := .ready, pending := none, fn, tmps := a.tmps, params := ps, assign, body, defers := w.heap.size } : Loop) = rec
  generalize hW : (w.alloc (.deferred (some []))).alloc (.loop rec) = W
  have hL : W.heap[w.heap.size + 1]? = some (.loop rec) := by
    rw [← hW]; have := World.alloc_heap_new (w.alloc (.deferred (some []))) (.loop rec); rwa [World.size_alloc] at this
  have hD : W.heap[w.heap.size]? = some (.deferred (some [])) := by
    rw [← hW]; exact (heap_alloc_old _ _ (by simp)).trans (World.alloc_heap_new w _)
  have hbel : Below w.heap.size w W := by
    rw [← hW]; exact (((Below.refl _ w).alloc (Nat.le_refl _) _).alloc (by simp) _)
  let β' : Nat → Value := fun b => if b = S.bx.length then .pointer (some ⟨w.heap.size + 1, 0, none⟩) else β b
  have hβ : ∀ b, b < S.bx.length → β' b = β b := fun b hb => by simp [β', show b ≠ S.bx.length by omega]
  have hβn : β' S.bx.length = .pointer (some ⟨w.heap.size + 1, 0, none⟩) := by simp [β']
  have hlen : (S.bx ++ [Bx.lp S.nt S.tm ps.toList assign body .ready none]).length = S.bx.length + 1 := by simp
  have hcr : ∀ b, b < S.bx.length → b < (S.bx ++ [Bx.lp S.nt S.tm ps.toList assign body .ready none]).length ∧ β' b = β b := fun b hb => ⟨by rw [hlen]; omega, hβ b hb⟩
  have he : Ext Z Z w W := ext_of_below hbel hs.wr.zin
  refine ⟨β', ⟨⟨hs.wr.below.trans (hbel.mono hs.wr.hbase), Nat.le_trans hs.wr.hbase hbel.size, fun a ha => Nat.lt_of_lt_of_le (hs.wr.zin a ha) hbel.size, hs.wr.zsp, fun b hb => ?_, fun b b' g h1 h2 hne e1 e2 => ?_, fun b hb => hb.1, hs.wr.oth.trans (.of_below hbel)⟩, hs.z0, hs.zn, fun b hb => by have := hs.fl b hb; rw [hlen]; omega, fun b hb => by have := hs.dl b hb; rw [hlen]; omega⟩, ⟨he, hβ, .of (.of_below hbel)⟩, hβn, hD⟩
  · by_cases hbl : b = S.bx.length
    · subst hbl
      refine ⟨.lp S.nt S.tm ps.toList assign body .ready none, by rw [nthB_eq]; simp, ?_⟩
      have hr1 : rec.params.toList = ps.toList := by rw [← hrec]
      have hr2 : rec.tmps = a.tmps := by rw [← hrec]
      exact .lp _ _ _ _ _ _ _ (w.heap.size + 1) rec hβn (by have := hs.wr.hbase; omega) hL hr1 (by rw [← hrec]) (by rw [← hrec]) (by rw [← hrec]) (by rw [← hrec]) (by rw [hr2]; exact hs.tsz)
        (fun t => by rw [hr2]; exact (hs.tr t).ext he hcr) (fun a ha e => by have := hs.wr.zin a ha; omega)
    · have hb' : b < S.bx.length := by have := hb.1; rw [hlen] at this; omega
      obtain ⟨y, hy, hB⟩ := hs.wr.box b ⟨hb', hb.2⟩
      refine ⟨y, by rw [nthB_eq] at hy ⊢; rw [List.getElem?_append_left hb']; exact hy, hB.ext he hcr hb' (fun g hg => hbel.block g (hB.blk_base hg).2) (fun g hg a ha e => .inl ha) id⟩
  · have h1l := h1.1
    have h2l := h2.1
    rw [hlen] at h1l h2l
    have old : ∀ c, c < S.bx.length → c ∉ S.dead → ∀ g, blk (β c) = some g → g < w.heap.size := fun c hc hd g hg => by
      obtain ⟨y, hy, hB⟩ := hs.wr.box c ⟨hc, hd⟩
      exact (hB.blk_base hg).2
    by_cases c1 : b = S.bx.length
    · subst c1
      rw [hβn] at e1
      simp only [blk, Option.some.injEq] at e1
      rw [hβ b' (by omega)] at e2
      have := old b' (by omega) h2.2 g e2
      omega
    · by_cases c2 : b' = S.bx.length
      · subst c2
        rw [hβn] at e2
        simp only [blk, Option.some.injEq] at e2
        rw [hβ b (by omega)] at e1
        have := old b (by omega) h1.2 g e1
        omega
      · rw [hβ b (by omega)] at e1
        rw [hβ b' (by omega)] at e2
        exact hs.wr.dis b b' g ⟨by omega, h1.2⟩ ⟨by omega, h2.2⟩ hne e1 e2
end Go.Vam

/- An abstract machine over data (part 16): ranges over functions. -/
namespace Go.Vam
open Go.RowKit
set_option linter.unusedVariables false
set_option linter.unusedSimpArgs false

def zipT : List Nat → List AV → List (Nat × AV) → List (Nat × AV)
  | p :: ps, x :: xs, tm => zipT ps xs ((p, x) :: tm)
  | _, _, tm => tm
theorem zipT_AR {Z : Zone} {w : World} {β : Nat → Value} {cr : Nat → Prop} {nt : Nat} : ∀ (ps : List Nat) (xs : List AV) (vs : List Value) (tm : List (Nat × AV)) (tmps : Array Value), vs.length = xs.length → tmps.size = nt → (∀ p ∈ ps, p < nt) →
    (∀ (i : Nat) (x : AV) (v : Value), xs[i]? = some x → vs[i]? = some v → AR Z w β cr x v) → (∀ t, AR Z w β cr (look tm t) (tmps.getD t undef)) →
    ∀ t, AR Z w β cr (look (zipT ps xs tm) t) (((ps.zip vs).foldl (fun tmps (p : Nat × Value) => tmps.setIfInBounds p.1 p.2) tmps).getD t undef)
  | [], xs, vs, tm, tmps, _, _, _, _, h, t => by simpa [zipT] using h t
  | p :: ps, [], vs, tm, tmps, hl, _, _, _, h, t => by
    have : vs = [] := List.eq_nil_of_length_eq_zero hl
    subst this
    simpa [zipT] using h t
  | p :: ps, x :: xs, [], tm, tmps, hl, _, _, _, _, _ => by simp at hl
  | p :: ps, x :: xs, v :: vs, tm, tmps, hl, hsz, hp, hA, h, t => by
    simp only [zipT, List.zip_cons_cons, List.foldl_cons]
    refine zipT_AR ps xs vs _ _ (by simpa using hl) (by simpa using hsz) (fun q hq => hp q (by simp [hq])) (fun i y u e1 e2 => hA (i + 1) y u (by simpa using e1) (by simpa using e2)) (fun s => ?_) t
    simp only [look]
    by_cases hps : p = s
    · subst hps
      have hlt : p < tmps.size := by rw [hsz]; exact hp p (by simp)
      rw [if_pos rfl]
      have : (tmps.setIfInBounds p v).getD p undef = v := by simp [hlt]
      rw [this]
      exact hA 0 x v rfl rfl
    · rw [if_neg hps]
      have : (tmps.setIfInBounds p v).getD s undef = tmps.getD s undef := by
        simp only [Array.getD_eq_getD_getElem?]
        rw [Array.getElem?_setIfInBounds_ne hps]
      rw [this]
      exact h s
def setLp (S : St) (b : Nat) (x : Bx) : St := ⟨S.nt, S.tm, setBx S.bx b x, S.dead, S.fz⟩
/-- How a round ends. -/
def YEnd (F : LoopState → Option Code → Bool → Prop) : Exit → Prop
  | .normal => F .ready none true
  | .ret => F .done (some .ret) false
  | .exit id => F .done (some (.exit id)) false
  | _ => False
theorem OpK.yield {E : En} (hE : EOk E) {o : Oper} {S : St} {K : St → Prop} {fo : Operand} {as : Array Operand} {ts : Array TypeId} {b nt : Nat} {tm : List (Nat × AV)} {ps : List Nat} {assign body : Code} (ho : o.op = .call { callee := .value fo, args := as, argTypes := ts })
    (hf : evT S.tm fo = .yld b) (hd : dstOk S.nt o.dst = true) (hn : E.n0 ≤ S.bx.length) (hb : b ∉ S.dead) (hbx : nthB S.bx b = some (.lp nt tm ps assign body .ready none)) (hsz : as.size = ps.length) (hps : ∀ p ∈ ps, p < nt)
    (h : ∀ E' : En, EOk E' → E'.P = E.P → E'.tt = E.tt → E'.n0 = S.bx.length → AWP E' assign ⟨nt, zipT ps (mapN (evT S.tm) as.toList) tm, S.bx, S.dead, S.fz⟩ (fun e S1 => e = .normal ∧ nthB S1.bx b = some (.lp nt tm ps assign body .ready none) ∧ b ∉ S1.dead ∧
      AWP E' body (setLp S1 b (.lp nt tm ps assign body .busy none)) (fun e S2 => nthB S2.bx b = some (.lp nt tm ps assign body .busy none) ∧ b ∉ S2.dead ∧
        YEnd (fun st pe v => K ⟨S.nt, putT S.tm o.dst (.c (.sc (.bool v))), setBx S2.bx b (.lp nt tm ps assign body st pe), S2.dead, S2.fz⟩) e))) : OpK E o S K := fun Z β a w hs => by
  have hfo := hs.evT fo
  rw [hf] at hfo
  generalize hq : a.eval fo = q at hfo
  cases hfo with
  | yld _ g hcb hg =>
    obtain ⟨g', rec, hv, hh, e1, rfl, rfl, e4, e5, e6, e7, _⟩ := hs.w.putLp hE hb hbx
    have hgg : g' = g := by rw [hv] at hg; simpa using hg
    subst hgg
    have hbl : b < S.bx.length := by rw [nthB_eq] at hbx; exact (List.getElem?_eq_some_iff.1 hbx).1
    have hpsz : rec.params.size = ps.length := by rw [← e1]; simp
    have hy := run_yield (P := E.P) (args := as.map a.eval) hh (by simp [hsz, hpsz])
    have hrun : (execOp a.eval o).run E.P w = .ok (.round g' rec.fn ((rec.params.zip (as.map a.eval)).foldl (fun tmps (t, a) => tmps.setIfInBounds t a) rec.tmps) rec.assign rec.body) w := by
      have : ((#[] : Array Value) ++ as.map a.eval) = as.map a.eval := by simp
      simp only [execOp, ho, resolve, hq, Deferred.ofValue, invoke, Sem.run_bind, Sem.run_pure, Result.andThen_ok, this, hy]
    unfold OpRun
    rw [hrun]
    simp only
    let E' : En := { E with n0 := S.bx.length, rd := some g' }
    have hE' : EOk E' := ⟨hE.hT, hE.hm, hE.hb, hE.hmb⟩
    have hfold : ((rec.params.zip (as.map a.eval)).foldl (fun tmps (t, a) => tmps.setIfInBounds t a) rec.tmps) = ((ps.zip (as.toList.map a.eval)).foldl (fun tmps (p : Nat × Value) => tmps.setIfInBounds p.1 p.2) rec.tmps) := by
      rw [← Array.foldl_toList, Array.toList_zip, e1, Array.toList_map]
    have htsz : ((rec.params.zip (as.map a.eval)).foldl (fun tmps (t, a) => tmps.setIfInBounds t a) rec.tmps).size = nt := by
      rw [hfold]
      have : ∀ (l : List (Nat × Value)) (t : Array Value), (l.foldl (fun tmps (p : Nat × Value) => tmps.setIfInBounds p.1 p.2) t).size = t.size := fun l => by
        induction l with
        | nil => intro t; rfl
        | cons p l ih => intro t; rw [List.foldl_cons, ih]; simp
      rw [this, e6]
    have hs1 : Sim E' ⟨nt, zipT ps (mapN (evT S.tm) as.toList) tm, S.bx, S.dead, S.fz⟩ Z β { tmps := (rec.params.zip (as.map a.eval)).foldl (fun tmps (t, a) => tmps.setIfInBounds t a) rec.tmps, defers := [] } w := by
      refine (hs.w.congr (E' := E') rfl rfl rfl).sim htsz (fun t => ?_) (.none hs.df.1)
      simp only
      rw [hfold]
      refine zipT_AR ps _ _ tm rec.tmps (by simp [mapN_eq]) e6 hps (fun i x v h1 h2 => ?_) e7 t
      rw [mapN_eq, List.getElem?_map] at h1
      rw [List.getElem?_map] at h2
      cases hx : as.toList[i]? with
      | none => rw [hx] at h1; simp at h1
      | some y =>
        rw [hx] at h1 h2
        simp only [Option.map_some, Option.some.injEq] at h1 h2
        subst h1; subst h2
        exact hs.evT y
    have hw1 := h E' hE' rfl rfl rfl Z β _ w hs1
    refine roundIn_of_wpIn (F := Fence.wide) trivial (wpIn_mono hw1 fun e a1 w1 ⟨S1, Z1, β1, k1, k2, k3, k4⟩ => ?_)
    obtain ⟨rfl, hb1, hd1, k5⟩ := k4
    obtain ⟨g1, rec1, hv1, hh1, f1, f2, f3, f4, f5, f6, f7, fput⟩ := k1.w.putLp hE' hd1 hb1
    have hg1 : g1 = g' := by
      have := k2.same b hbl
      rw [this, hv] at hv1
      simpa using hv1.symm
    subst hg1
    obtain ⟨p1, p2, p3⟩ := fput .busy none
    have hst : ({ rec1 with state := LoopState.busy, pending := none } : Loop) = { rec1 with state := .busy } := by rw [← f5]
    refine ⟨_, run_beginRound hh1 f4, ?_⟩
    rw [← hst]
    have hs2 : Sim E' (setLp S1 b (.lp nt tm ps rec.assign rec.body .busy none)) Z1 β1 a1 (w1.putObj g1 (.loop { rec1 with state := .busy, pending := none })) :=
      p1.sim k1.tsz (fun t => (k1.tr t).ext p2 fun c hc => ⟨by simpa [setBx_eq] using hc, rfl⟩) (k1.df.kept rfl p3)
    have hw2 := k5 Z1 β1 a1 _ hs2
    refine wpIn_mono hw2 fun e a2 w2 ⟨S2, Z2, β2, q1, q2, q3, q4⟩ => ?_
    obtain ⟨hb2, hd2, q5⟩ := q4
    have fin : ∀ (jump : Option Code) (st : LoopState), st = (if jump.isNone then LoopState.ready else .done) → K ⟨S.nt, putT S.tm o.dst (.c (.sc (.bool jump.isNone))), setBx S2.bx b (.lp nt tm ps rec.assign rec.body st jump), S2.dead, S2.fz⟩ →
        ∃ v w', (Instr.endRound g1 jump).run E.P w2 = .ok v w' ∧ ∃ v', Ending.returned v = .returned v' ∧ After E E.n0 Z β w K (a.put o.dst v') w' := fun jump st hst hK => by
      obtain ⟨g2, rec2, hv2, hh2, _, _, _, _, _, _, _, fput2⟩ := q1.w.putLp hE' hd2 hb2
      have hg2 : g2 = g1 := by
        have h1 := q2.same b hbl
        have h2 := k2.same b hbl
        rw [h1, h2, hv] at hv2
        simpa using hv2.symm
      subst hg2
      obtain ⟨r1, r2, r3⟩ := fput2 st jump
      refine ⟨_, _, run_endRound jump hh2, _, rfl, ?_⟩
      rw [← hst]
      refine After.behind hs hn hd (r1.congr (E' := E) rfl rfl rfl) ⟨((k2.ext.trans p2).trans q2.ext).trans r2, fun c hc => (q2.same c hc).trans (k2.same c hc), ((k2.kd.trans p3).trans q2.kd).trans r3⟩ (by simp only [setBx_eq, List.length_set]; exact q3) (.c _ _ (.sc _ rfl)) hK
    cases e with
    | normal => exact fin none .ready rfl q5
    | ret => exact fin (some .ret) .done rfl q5
    | exit id => exact fin (some (.exit id)) .done rfl q5
    | goto t => exact q5.elim
    | panic c => exact q5.elim
    | outgrown => exact q5.elim

/-- **A RANGE OVER A FUNCTION**: the function is run where it stands. -/
theorem AWP.range {E : En} (hE : EOk E) (hrd : E.rd = none) {fo : Operand} {ps : Array Tmp} {assign body : Code} {S : St} {Q : Exit → St → Prop} {g : FuncId} {first caps : List AV} (hn : E.n0 ≤ S.bx.length)
    (hf : fnOf (evT S.tm fo) = some (g, first, caps))
    (h : InlC E g (first ++ [.yld S.bx.length] ++ caps) ⟨S.nt, S.tm, S.bx ++ [.lp S.nt S.tm ps.toList assign body .ready none], S.dead, S.fz⟩ (fun r bx' dead' fz' => ∃ st pe, nthB bx' S.bx.length = some (.lp S.nt S.tm ps.toList assign body st pe) ∧ st ≠ .busy ∧ S.bx.length ∉ dead' ∧
      (match pe with
       | none => Q .normal ⟨S.nt, S.tm, bx', S.bx.length :: dead', fz'⟩
       | some c => AWP E c ⟨S.nt, S.tm, bx', S.bx.length :: dead', fz'⟩ Q))) : AWP E (.rangeFunc fo ps assign body) S Q := fun Z β a w hs => by
  obtain ⟨hent, hc⟩ := h
  obtain ⟨fs, cs, hv, l1, l2, A1, A2⟩ := fnOf_AR (hs.evT fo) hf
  have hF : fenceR E.rd = Fence.wide := by rw [hrd]; rfl
  rw [hF]
  refine wpIn_rangeFunc fun fn hfn => ?_
  obtain ⟨β1, n1, n2, n3, n4⟩ := hs.newLp fn ps assign body
  generalize hrec : ({ state := .ready, pending := none, fn, tmps := a.tmps, params := ps, assign, body, defers := w.heap.size } : Loop) = rec at n1 n2 n4
  generalize hW : (w.alloc (.deferred (some []))).alloc (.loop rec) = W at n1 n2 n4
  have hlen : (S.bx ++ [Bx.lp S.nt S.tm ps.toList assign body .ready none]).length = S.bx.length + 1 := by simp
  refine ⟨w.heap.size + 1, [mark w.heap.size], W, { target := .fn (.func g) cs, args := fs ++ #[.func (.yield (w.heap.size + 1)) #[] #[]] }, W, g, fs ++ #[.func (.yield (w.heap.size + 1)) #[] #[]] ++ cs, W, ?_, ?_, fun _ _ => trivial, ?_, fun h => by simp [Fence.wide] at h, ?_⟩
  · rw [← hW, ← hrec]; exact run_enterLoop_outer _ _ _ _ _
  · have hcv : a.eval (.const (.func (.yield (w.heap.size + 1)) #[] #[])) = .func (.yield (w.heap.size + 1)) #[] #[] := rfl
    simp only [resolve, hv, Deferred.ofValue, Sem.run_pure, List.map_toArray, List.map_cons, List.map_nil, hcv]
  · simp only [invoke]
    exact hent _ W
  · refine callsIn_wide.2 ((hc Z β1 W _ n1 (Nat.le_trans hs.df.1 n2.kd.size) (by simp [l1, l2]; omega) ?_).mono ?_)
    · have hcr : ∀ c, c < S.bx.length → c < (S.bx ++ [Bx.lp S.nt S.tm ps.toList assign body .ready none]).length ∧ β1 c = β c := fun c hc => ⟨by rw [hlen]; omega, n2.same c hc⟩
      refine append_AR (by simp [l1]) (append_AR l1 (fun i x v e1 e2 => (A1 i x v e1 e2).ext n2.ext hcr) fun i x v e1 e2 => ?_) (fun i x v e1 e2 => (A2 i x v e1 e2).ext n2.ext hcr)
      match i with
      | 0 =>
        simp at e1 e2
        subst e1; subst e2
        exact .yld _ _ (by simp) n3
      | i + 1 => simp at e1
    · rintro e w' ⟨v, bx', dead', fz', Z', β', r, rfl, k1, k2, k3, k4, st, pe, k5, k6, k7, k8⟩
      obtain ⟨g1, rec1, hv1, hh1, f1, f2, f3, f4, f5, f6, f7, fput⟩ := k1.putLp hE k7 k5
      have hg1 : g1 = w.heap.size + 1 := by
        have := k2.same S.bx.length (by rw [hlen]; omega)
        rw [this, n3] at hv1
        simpa using hv1.symm
      subst hg1
      obtain ⟨p1, p2, p3⟩ := fput .exhausted pe
      have hpe : ({ rec1 with state := LoopState.exhausted, pending := pe } : Loop) = { rec1 with state := .exhausted } := by rw [← f5]
      rw [hpe] at p1 p2 p3
      refine ⟨pe, w'.putObj (w.heap.size + 1) (.loop { rec1 with state := .exhausted }), ?_, ?_⟩
      · exact (run_endLoop (P := E.P) hh1 (by rw [f4]; exact k6)).trans (congrArg (fun p => Result.ok p _) f5)
      · -- the state behind it
        rw [hlen] at k3
        have hlt : S.bx.length < bx'.length := by omega
        have hout : Sim E ⟨S.nt, S.tm, bx', S.bx.length :: dead', fz'⟩ Z' β' { a with defers := [mark w.heap.size] ++ a.defers } (w'.putObj (w.heap.size + 1) (.loop { rec1 with state := .exhausted })) := by
          have hb2 : (setBx bx' S.bx.length (.lp S.nt S.tm ps.toList assign body .exhausted pe)).length = bx'.length := by simp [setBx_eq]
          have hwr : WR E.base E.w0 Z' β' (fun b => b < bx'.length) (fun b => b < bx'.length ∧ b ∉ S.bx.length :: dead') (fun b => b ∈ fz') (nthB bx') (w'.putObj (w.heap.size + 1) (.loop { rec1 with state := .exhausted })) := by
            have := p1.wr
            simp only [hb2] at this
            refine this.mono (fun _ h => h) (fun b hb => ⟨hb.1, fun h => hb.2 (by simp [h])⟩) (fun _ h => h) (fun b hb => ?_)
            have hne : b ≠ S.bx.length := fun e => hb.2 (by simp [e])
            rw [nthB_eq, nthB_eq, setBx_eq, List.getElem?_set_ne (fun e => hne e.symm)]
          refine ⟨⟨hwr, p1.z0, p1.zn, hs.tsz, fun t => ((hs.tr t).ext (n2.ext.trans (k2.ext.trans p2)) fun c hc => ⟨Nat.lt_trans hc hlt, (k2.same c (by rw [hlen]; exact Nat.lt_succ_of_lt hc)).trans (n2.same c hc)⟩), ?_⟩, k1.fl, fun b hb => ?_⟩
          · obtain ⟨m0, ms, m1, m2, m3⟩ := hs.df
            have hkd := n2.kd.trans (k2.kd.trans p3)
            refine ⟨Nat.le_trans m0 hkd.size, w.heap.size :: ms, by simp [m1], ?_, fun D hD => ?_⟩
            · rw [List.nodup_cons]
              refine ⟨fun hm => ?_, m2⟩
              have := (Array.getElem?_eq_some_iff.1 (m3 _ hm).2).1
              omega
            · rcases List.mem_cons.1 hD with rfl | hD
              · exact ⟨m0, (k2.kd.trans p3).same _ n4⟩
              · exact ⟨(m3 D hD).1, hkd.same D (m3 D hD).2⟩
          · rcases List.mem_cons.1 hb with rfl | hb
            · exact hlt
            · exact k1.dl b hb
        have hev : Evo E.n0 Z β Z' β' w (w'.putObj (w.heap.size + 1) (.loop { rec1 with state := .exhausted })) :=
          ⟨n2.ext.trans (k2.ext.trans p2), fun c hc => by rw [k2.same c (by rw [hlen]; omega), n2.same c (by omega)], n2.kd.trans (k2.kd.trans p3)⟩
        cases pe with
        | none => exact ⟨_, Z', β', hout, hev, by simp only; omega, k8⟩
        | some c =>
          have := k8 Z' β' _ _ hout
          rw [hF] at this
          exact wpIn_mono this fun e a2 w2 k => k.trans hev
end Go.Vam

/- An abstract machine over data (part 17): how a run goes on at calls that are run where they stand, and at ranges over functions. -/
namespace Go.Vam
open Go.RowKit
set_option linter.unusedVariables false
set_option linter.unusedSimpArgs false

/-- What the end of a function that is run where it stands asks: the caller goes on. -/
def InlQ (E : En) (Q : Exit → St → Prop) (tt : TT) (rs : List ResultVar) (nt : Nat) (tm : List (Nat × AV)) (d : Option Nat) (ks : List Fr) : Exit → St → Prop :=
  fun e S => (e = .normal ∨ e = .ret) ∧ ∃ ys, resVs tt S rs = some ys ∧ Go E Q ks ⟨nt, putT tm d (retA ys), S.bx, S.dead, S.fz⟩
/-- What the end of a function that was ranged over asks. -/
def RngQ (E : En) (Q : Exit → St → Prop) (tt : TT) (rs : List ResultVar) (nt : Nat) (tm : List (Nat × AV)) (n : Nat) (ps : List Nat) (assign body : Code) (ks : List Fr) : Exit → St → Prop :=
  fun e S => (e = .normal ∨ e = .ret) ∧ ∃ ys, resVs tt S rs = some ys ∧ ∃ st pe, nthB S.bx n = some (.lp nt tm ps assign body st pe) ∧ st ≠ .busy ∧ n ∉ S.dead ∧
    (match pe with
     | none => Go E Q ks ⟨nt, tm, S.bx, n :: S.dead, S.fz⟩
     | some c => Go E Q (.code c :: ks) ⟨nt, tm, S.bx, n :: S.dead, S.fz⟩)
/-- What the end of a round asks: yield's caller goes on. -/
def YldQ (E : En) (Q : Exit → St → Prop) (nt : Nat) (tm : List (Nat × AV)) (d : Option Nat) (b nt' : Nat) (tm' : List (Nat × AV)) (ps : List Nat) (assign body : Code) (ks : List Fr) : Exit → St → Prop :=
  fun e S => nthB S.bx b = some (.lp nt' tm' ps assign body .busy none) ∧ b ∉ S.dead ∧
    YEnd (fun st pe v => Go E Q ks ⟨nt, putT tm d (.c (.sc (.bool v))), setBx S.bx b (.lp nt' tm' ps assign body st pe), S.dead, S.fz⟩) e
section
variable {E : En} {Q : Exit → St → Prop} {o : Oper} {l : List Oper} {ds : List (Option Nat)} {dr : Dr} {ks : List Fr} {S : St}
theorem InlQ.by {tt : TT} {rs : List ResultVar} {nt : Nat} {tm : List (Nat × AV)} {d : Option Nat} {e : Exit} {ys : List AV} (hE : EOk E) (n : Nat) (he : e = .normal ∨ e = .ret) (hy : resVs tt S rs = some ys)
    (k : evF E Q n ks ⟨nt, putT tm d (retA ys), S.bx, S.dead, S.fz⟩) : InlQ E Q tt rs nt tm d ks e S := ⟨he, ys, hy, evF_sound hE n _ _ k⟩
theorem InlC.code (hE : EOk E) {P : Program} (hP : E.P = P) {tt : TT} (ht : E.tt = tt) {g : FuncId} {fn : Func} {c : Code} {args : List AV} {K : AV → List Bx → List Nat → List Nat → Prop} (hf : P.funcs[g]? = some fn) (hb : fn.body = some c) (hname : (fn.name == "runtime.NumGoroutine") = false)
    (hnt : args.length ≤ fn.ntmps) (h : ∀ E' : En, EOk E' → E'.P = P → E'.tt = tt → E'.n0 = S.bx.length → E'.rd = none → Go E' (fun e S' => (e = .normal ∨ e = .ret) ∧ ∃ ys, resVs tt S' fn.results.toList = some ys ∧ K (retA ys) S'.bx S'.dead S'.fz) [.code c] ⟨fn.ntmps, argsT 0 args, S.bx, S.dead, S.fz⟩) : InlC E g args S K := by
  subst hP; subst ht
  refine InlC.of_body hE hf hb hname hnt fun E' hE' h1 h2 h3 h4 => ?_
  have := h E' hE' h1 h2 h3 h4 (by simp [h3])
  refine AWP.mono this fun e S' hn hq => ?_
  cases e <;> exact hq
theorem Go.inl (hE : EOk E) {P : Program} (hP : E.P = P) {tt : TT} (ht : E.tt = tt) {fo : Operand} {as : Array Operand} {ts : Array TypeId} {g : FuncId} {first caps : List AV} {fn : Func} {c : Code} (ho : o.op = .call { callee := .value fo, args := as, argTypes := ts })
    (hfo : fnOf (evT S.tm fo) = some (g, first, caps)) (hd : dstOk S.nt o.dst = true) (hf : P.funcs[g]? = some fn) (hb : fn.body = some c) (hname : (fn.name == "runtime.NumGoroutine") = false)
    (nt : Nat) (rs : List ResultVar) (hnt : fn.ntmps = nt) (hrs : fn.results.toList = rs) (args : List AV) (hargs : first ++ mapN (evT S.tm) as.toList ++ caps = args) (hl : args.length ≤ nt)
    (h : ∀ E' : En, EOk E' → E'.P = P → E'.tt = tt → E'.n0 = S.bx.length → E'.rd = none → Go E' (InlQ E Q tt rs S.nt S.tm o.dst (.ops 0 l ds none :: ks)) [.code c] ⟨nt, argsT 0 args, S.bx, S.dead, S.fz⟩) : Go E Q (.ops 1 (o :: l) ds none :: ks) S := fun hn => by
  subst hnt; subst hrs; subst hargs
  refine HardOp.opK (K := fun S' => Go E Q (.ops 0 l ds none :: ks) S') (OpK.inl hE ho hfo hd hn ?_) (fun S' h => h) hn
  exact InlC.code hE hP ht hf hb hname hl h
theorem CallG.inl (hE : EOk E) {P : Program} (hP : E.P = P) {tt : TT} (ht : E.tt = tt) {g : FuncId} {raw : List AV} {caps : List (List C)} {fn : Func} {c : Code} (hf : P.funcs[g]? = some fn) (hb : fn.body = some c) (hname : (fn.name == "runtime.NumGoroutine") = false)
    (nt : Nat) (rs : List ResultVar) (hnt : fn.ntmps = nt) (hrs : fn.results.toList = rs) (args : List AV) (hargs : raw ++ mapN .pt caps = args) (hl : args.length ≤ nt)
    (h : ∀ E' : En, EOk E' → E'.P = P → E'.tt = tt → E'.n0 = S.bx.length → E'.rd = none → Go E' (InlQ E Q tt rs S.nt S.tm o.dst (.ops 0 l ds none :: ks)) [.code c] ⟨nt, argsT 0 args, S.bx, S.dead, S.fz⟩) : CallG E Q o l ds none ks S g raw caps := fun hq hd => by
  obtain ⟨fo, as, ts, hop, hfo, hraw⟩ := hq
  subst hraw
  exact Go.inl hE hP ht hop (first := []) (caps := mapN .pt caps) (by rw [hfo]; rfl) hd hf hb hname nt rs hnt hrs args (by simpa using hargs) hl h
theorem CallI.inl (hE : EOk E) {P : Program} (hP : E.P = P) {tt : TT} (ht : E.tt = tt) {g : FuncId} {first raw caps : List AV} {fn : Func} {c : Code} (hf : P.funcs[g]? = some fn) (hb : fn.body = some c) (hname : (fn.name == "runtime.NumGoroutine") = false)
    (nt : Nat) (rs : List ResultVar) (hnt : fn.ntmps = nt) (hrs : fn.results.toList = rs) (args : List AV) (hargs : first ++ raw ++ caps = args) (hl : args.length ≤ nt)
    (h : ∀ E' : En, EOk E' → E'.P = P → E'.tt = tt → E'.n0 = S.bx.length → E'.rd = none → Go E' (InlQ E Q tt rs S.nt S.tm o.dst (.ops 0 l ds none :: ks)) [.code c] ⟨nt, argsT 0 args, S.bx, S.dead, S.fz⟩) : CallI E Q o l ds none ks S g first raw caps := fun hq hd => by
  obtain ⟨fo, as, ts, hop, hfo, hraw⟩ := hq
  subst hraw
  exact Go.inl hE hP ht hop (by rw [hfo]; rfl) hd hf hb hname nt rs hnt hrs args hargs hl h
theorem CloG.by (hE : EOk E) {g : FuncId} {first caps : List AV} (n : Nat) (k : evF E Q n (.ops 0 l ds none :: ks) (S.app o.dst { res := .clo g first caps })) : CloG E Q o l ds none ks S g first caps := fun hq hd hn => by
  obtain ⟨f, c, hop, h1, h2⟩ := hq
  refine HardOp.opK (K := fun S' => S' = S.app o.dst { res := .clo g first caps }) (fun Z β a w hs => ?_) (fun S' e => by subst e; exact evF_sound hE n _ _ k) hn
  have hA : ∀ (xs : Array Operand) (i : Nat) (x : AV) (v : Value), (mapN (evT S.tm) xs.toList)[i]? = some x → (xs.map a.eval)[i]? = some v → AR Z w β (fun b => b < S.bx.length) x v := fun xs i x v e1 e2 => by
    rw [mapN_eq, List.getElem?_map] at e1
    rw [Array.getElem?_map] at e2
    cases hx : xs[i]? with
    | none => rw [hx] at e2; simp at e2
    | some y =>
      rw [Array.getElem?_toList, hx] at e1
      rw [hx] at e2
      simp only [Option.map_some, Option.some.injEq] at e1 e2
      subst e1; subst e2
      exact hs.evT y
  refine OpRun.value (v := .func (.func g) (f.map a.eval) (c.map a.eval)) (w' := w) (by simp [execOp, hop, Instr.makeFunc]) ?_
  refine After.behind hs hn hd hs.w (.refl _ _ _ _) (Nat.le_refl _) ?_ rfl
  subst h1; subst h2
  exact .clo g _ _ _ _ (by simp [mapN_eq]) (by simp [mapN_eq]) (hA f) (hA c)
theorem Rng.by (hE : EOk E) {P : Program} (hP : E.P = P) {tt : TT} (ht : E.tt = tt) (hrd : E.rd = none) {fo : Operand} {ps : Array Tmp} {assign body : Code} {g : FuncId} {first caps : List AV} {fn : Func} {c : Code}
    (hfo : fnOf (evT S.tm fo) = some (g, first, caps)) (hf : P.funcs[g]? = some fn) (hb : fn.body = some c) (hname : (fn.name == "runtime.NumGoroutine") = false)
    (nt : Nat) (rs : List ResultVar) (hnt : fn.ntmps = nt) (hrs : fn.results.toList = rs) (args : List AV) (hargs : first ++ [.yld S.bx.length] ++ caps = args) (hl : args.length ≤ nt)
    (h : ∀ (E' : En) (tm' : List (Nat × AV)) (ps' : List Nat) (as' bd' : Code), EOk E' → E'.P = P → E'.tt = tt → E'.n0 = S.bx.length + 1 → E'.rd = none → tm' = S.tm → ps' = ps.toList → as' = assign → bd' = body → Go E' (RngQ E Q tt rs S.nt tm' S.bx.length ps' as' bd' ks) [.code c] ⟨nt, argsT 0 args, S.bx ++ [.lp S.nt tm' ps' as' bd' .ready none], S.dead, S.fz⟩) :
    Go E Q (.code (.rangeFunc fo ps assign body) :: ks) S := fun hn => by
  subst hnt; subst hrs; subst hargs
  refine AWP.range hE hrd hn hfo (InlC.code (S := ⟨S.nt, S.tm, S.bx ++ [.lp S.nt S.tm ps.toList assign body .ready none], S.dead, S.fz⟩) hE hP ht hf hb hname hl fun E' hE' h1 h2 h3 h4 => ?_)
  have := h E' S.tm ps.toList assign body hE' h1 h2 (by rw [h3]; simp) h4 rfl rfl rfl rfl
  intro hn'
  refine AWP.mono (this hn') fun e S' hn2 hq => ?_
  have main : ∀ e, RngQ E Q tt fn.results.toList S.nt S.tm S.bx.length ps.toList assign body ks e S' → ((e = .normal ∨ e = .ret) ∧ ∃ ys, resVs tt S' fn.results.toList = some ys ∧ ∃ st pe, nthB S'.bx S.bx.length = some (.lp S.nt S.tm ps.toList assign body st pe) ∧ st ≠ .busy ∧ S.bx.length ∉ S'.dead ∧
      (match pe with
       | none => GoK E Q ks .normal ⟨S.nt, S.tm, S'.bx, S.bx.length :: S'.dead, S'.fz⟩
       | some c => AWP E c ⟨S.nt, S.tm, S'.bx, S.bx.length :: S'.dead, S'.fz⟩ (GoK E Q ks))) := fun e hq => by
    obtain ⟨he, ys, hy, st, pe, q1, q2, q3, q4⟩ := hq
    have hlen : E.n0 ≤ S'.bx.length := by rw [h3] at hn2; simp at hn2; omega
    refine ⟨he, ys, hy, st, pe, q1, q2, q3, ?_⟩
    cases pe with
    | none => exact q4 hlen
    | some c => exact q4 hlen
  cases e <;> exact main _ hq
theorem RngQ.by {tt : TT} {rs : List ResultVar} {nt : Nat} {tm : List (Nat × AV)} {n : Nat} {ps : List Nat} {assign body : Code} {e : Exit} {ys : List AV} {st : LoopState} (hE : EOk E) (m : Nat) (he : e = .normal ∨ e = .ret) (hy : resVs tt S rs = some ys)
    (hb : nthB S.bx n = some (.lp nt tm ps assign body st none)) (hst : st ≠ .busy) (hd : memB n S.dead = false) (k : evF E Q m ks ⟨nt, tm, S.bx, n :: S.dead, S.fz⟩) : RngQ E Q tt rs nt tm n ps assign body ks e S :=
  ⟨he, ys, hy, st, none, hb, hst, memB_not (by rw [hd]; simp), evF_sound hE m _ _ k⟩
theorem RngQ.jump {tt : TT} {rs : List ResultVar} {nt : Nat} {tm : List (Nat × AV)} {n : Nat} {ps : List Nat} {assign body c : Code} {e : Exit} {ys : List AV} {st : LoopState} (hE : EOk E) (m : Nat) (he : e = .normal ∨ e = .ret) (hy : resVs tt S rs = some ys)
    (hb : nthB S.bx n = some (.lp nt tm ps assign body st (some c))) (hst : st ≠ .busy) (hd : memB n S.dead = false) (k : evF E Q m (.code c :: ks) ⟨nt, tm, S.bx, n :: S.dead, S.fz⟩) : RngQ E Q tt rs nt tm n ps assign body ks e S :=
  ⟨he, ys, hy, st, some c, hb, hst, memB_not (by rw [hd]; simp), evF_sound hE m _ _ k⟩
/-- Behind the assignment to a round's variables. -/
def AsgQ (E' E : En) (Q : Exit → St → Prop) (nt : Nat) (tm : List (Nat × AV)) (d : Option Nat) (b nt' : Nat) (tm' : List (Nat × AV)) (ps : List Nat) (assign body : Code) (ks : List Fr) : Exit → St → Prop :=
  fun e S1 => e = .normal ∧ nthB S1.bx b = some (.lp nt' tm' ps assign body .ready none) ∧ b ∉ S1.dead ∧ Go E' (YldQ E Q nt tm d b nt' tm' ps assign body ks) [.code body] (setLp S1 b (.lp nt' tm' ps assign body .busy none))
theorem AsgQ.by {E' : En} {nt : Nat} {tm : List (Nat × AV)} {d : Option Nat} {b nt' : Nat} {tm' : List (Nat × AV)} {ps : List Nat} {assign body : Code} (hE' : EOk E') (n : Nat) (hb : nthB S.bx b = some (.lp nt' tm' ps assign body .ready none)) (hd : memB b S.dead = false)
    (k : evF E' (YldQ E Q nt tm d b nt' tm' ps assign body ks) n [.code body] (setLp S b (.lp nt' tm' ps assign body .busy none))) : AsgQ E' E Q nt tm d b nt' tm' ps assign body ks .normal S :=
  ⟨rfl, hb, memB_not (by rw [hd]; simp), evF_sound hE' n _ _ k⟩
theorem YldQ.normal {nt : Nat} {tm : List (Nat × AV)} {d : Option Nat} {b nt' : Nat} {tm' : List (Nat × AV)} {ps : List Nat} {assign body : Code} (hE : EOk E) (n : Nat) (hb : nthB S.bx b = some (.lp nt' tm' ps assign body .busy none)) (hd : memB b S.dead = false)
    (k : evF E Q n ks ⟨nt, putT tm d (.c (.sc (.bool true))), setBx S.bx b (.lp nt' tm' ps assign body .ready none), S.dead, S.fz⟩) : YldQ E Q nt tm d b nt' tm' ps assign body ks .normal S :=
  ⟨hb, memB_not (by rw [hd]; simp), evF_sound hE n _ _ k⟩
theorem YldQ.ret {nt : Nat} {tm : List (Nat × AV)} {d : Option Nat} {b nt' : Nat} {tm' : List (Nat × AV)} {ps : List Nat} {assign body : Code} (hE : EOk E) (n : Nat) (hb : nthB S.bx b = some (.lp nt' tm' ps assign body .busy none)) (hd : memB b S.dead = false)
    (k : evF E Q n ks ⟨nt, putT tm d (.c (.sc (.bool false))), setBx S.bx b (.lp nt' tm' ps assign body .done (some .ret)), S.dead, S.fz⟩) : YldQ E Q nt tm d b nt' tm' ps assign body ks .ret S :=
  ⟨hb, memB_not (by rw [hd]; simp), evF_sound hE n _ _ k⟩
theorem YldQ.exit {id : Nat} {nt : Nat} {tm : List (Nat × AV)} {d : Option Nat} {b nt' : Nat} {tm' : List (Nat × AV)} {ps : List Nat} {assign body : Code} (hE : EOk E) (n : Nat) (hb : nthB S.bx b = some (.lp nt' tm' ps assign body .busy none)) (hd : memB b S.dead = false)
    (k : evF E Q n ks ⟨nt, putT tm d (.c (.sc (.bool false))), setBx S.bx b (.lp nt' tm' ps assign body .done (some (.exit id))), S.dead, S.fz⟩) : YldQ E Q nt tm d b nt' tm' ps assign body ks (.exit id) S :=
  ⟨hb, memB_not (by rw [hd]; simp), evF_sound hE n _ _ k⟩
theorem YldG.by (hE : EOk E) {P : Program} (hP : E.P = P) {tt : TT} (ht : E.tt = tt) {b nt : Nat} {tm : List (Nat × AV)} {ps : List Nat} {assign body : Code} {raw : List AV} (hb : memB b S.dead = false) (hbx : nthB S.bx b = some (.lp nt tm ps assign body .ready none)) (hsz : raw.length = ps.length) (hps : ∀ p ∈ ps, p < nt)
    (h : ∀ E' : En, EOk E' → E'.P = P → E'.tt = tt → E'.n0 = S.bx.length → Go E' (AsgQ E' E Q S.nt S.tm o.dst b nt tm ps assign body (.ops 0 l ds none :: ks)) [.code assign] ⟨nt, zipT ps raw tm, S.bx, S.dead, S.fz⟩) : YldG E Q o l ds none ks S b raw := fun hq hd hn => by
  obtain ⟨fo, as, ts, hop, hfo, hraw⟩ := hq
  subst hraw; subst hP; subst ht
  refine HardOp.opK (K := fun S' => Go E Q (.ops 0 l ds none :: ks) S') (OpK.yield hE hop hfo hd hn (memB_not (by rw [hb]; simp)) hbx (by simpa [mapN_eq] using hsz) hps fun E' hE' h1 h2 h3 => ?_) (fun S' h => h) hn
  refine AWP.mono (h E' hE' h1 h2 h3 (by simp [h3])) fun e S1 hn1 hq1 => ?_
  have q : AsgQ E' E Q S.nt S.tm o.dst b nt tm ps assign body (.ops 0 l ds none :: ks) e S1 := by cases e <;> exact hq1
  obtain ⟨he, q1, q2, q3⟩ := q
  refine ⟨he, q1, q2, AWP.mono (q3 (by simpa [setLp, setBx_eq] using hn1)) fun e2 S2 hn2 hq2 => ?_⟩
  have r : YldQ E Q S.nt S.tm o.dst b nt tm ps assign body (.ops 0 l ds none :: ks) e2 S2 := by cases e2 <;> exact hq2
  exact r
theorem Go.nilC {c : Code} (b k e sz : Nat) {cs : List AV} (hb : nthB S.bx b = some (.cells cs)) (hk : nthX cs k = some .nil)
    (h : Go E Q (.code c :: ks) ⟨S.nt, S.tm, setBx S.bx b (.cells (cs.set k (.own S.bx.length))) ++ [.rows e sz []], S.dead, S.fz⟩) : Go E Q (.code c :: ks) S := fun hn =>
  AWP.nilC b k e sz hb (by rw [← nthX_eq]; exact hk) hn (h (by simp [setBx_eq]; omega))
theorem Go.nilT {c : Code} (t e sz : Nat) (ht : look S.tm t = .nil)
    (h : Go E Q (.code c :: ks) ⟨S.nt, (t, .own S.bx.length) :: S.tm, S.bx ++ [.rows e sz []], S.dead, S.fz⟩) : Go E Q (.code c :: ks) S := fun hn =>
  AWP.nilT t e sz ht hn (h (by simp; omega))
/-- The same, of a nil that is told exactly. -/
theorem Go.nlC {c : Code} (b k e sz : Nat) {cs : List AV} (hb : nthB S.bx b = some (.cells cs)) (hk : nthX cs k = some (.c (.sc (.slice none 0 0))))
    (h : Go E Q (.code c :: ks) ⟨S.nt, S.tm, setBx S.bx b (.cells (cs.set k (.own S.bx.length))) ++ [.rows e sz []], S.dead, S.fz⟩) : Go E Q (.code c :: ks) S := fun hn =>
  AWP.nilC2 b k e sz hb ⟨_, by rw [← nthX_eq]; exact hk, .inr rfl⟩ hn (h (by simp [setBx_eq]; omega))
/-- A call that is run where it stands, the last thing of a region that draws. -/
theorem CallI.inlD (hE : EOk E) {P : Program} (hP : E.P = P) {tt : TT} (ht : E.tt = tt) {g : FuncId} {first raw caps : List AV} {fn : Func} {c : Code} {all : Array Oper} {acc : List TrK} (hdw : drawOk all (acc ++ [.st]) = true) (hf : P.funcs[g]? = some fn) (hb : fn.body = some c) (hname : (fn.name == "runtime.NumGoroutine") = false)
    (nt : Nat) (rs : List ResultVar) (hnt : fn.ntmps = nt) (hrs : fn.results.toList = rs) (args : List AV) (hargs : first ++ raw ++ caps = args) (hl : args.length ≤ nt)
    (h : ∀ E' : En, EOk E' → E'.P = P → E'.tt = tt → E'.n0 = (fin acc S).bx.length → E'.rd = none → Go E' (InlQ E Q tt rs S.nt S.tm o.dst ks) [.code c] ⟨nt, argsT 0 args, (fin acc S).bx, (fin acc S).dead, (fin acc S).fz⟩) : CallI E Q o [] ds (some (all, acc)) ks S g first raw caps := fun hq hd hn => by
  obtain ⟨fo, as, ts, hop, hfo, hraw⟩ := hq
  subst hraw; subst hnt; subst hrs; subst hargs
  have e := fin_nt acc S
  refine HardOp.opKd (K := fun S' => Go E Q ks S') (OpK.inl hE (S := fin acc S) hop (g := g) (first := first) (caps := caps) (by rw [e.2.1, hfo]; rfl) (by rw [e.1]; exact hd) (by rw [e.2.2.2.2]; exact hn) ?_) hdw (fun S' h => h) hn
  rw [e.2.1]
  have := InlC.code (E := E) (S := fin acc S) (args := first ++ mapN (evT S.tm) as.toList ++ caps) (K := fun r bx' dead' fz' => Go E Q ks ⟨(fin acc S).nt, putT (fin acc S).tm o.dst r, bx', dead', fz'⟩) hE hP ht hf hb hname hl (fun E' a1 a2 a3 a4 a5 => by
    have := h E' a1 a2 a3 a4 a5
    unfold InlQ at this
    rw [e.1, e.2.1]
    exact this)
  rw [e.1, e.2.1] at this
  simpa [e.1] using this
end
end Go.Vam
