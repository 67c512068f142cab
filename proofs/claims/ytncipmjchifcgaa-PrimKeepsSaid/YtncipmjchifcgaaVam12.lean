/- An abstract machine over data (part 12): the machine run. -/
import Derived.Test.YtncipmjchifcgaaVam11
namespace Go.Vam
open Go.RowKit
set_option linter.unusedVariables false
set_option linter.unusedSimpArgs false

/-! ### 1. What is still to be done -/
abbrev Dr := Option (Array Oper × List TrK)
inductive Fr where
  | code (c : Code)
  | ops (m : Nat) (l : List Oper) (ds : List (Option Nat)) (dr : Dr)
  | blk (id : Nat)
  | lp (R : St → Prop)
def OpsM (E : En) (ds : List (Option Nat)) (m : Nat) (l : List Oper) (S : St) (K : St → Prop) : Dr → Prop
  | none => OpsK E ds m l S K
  | some (all, acc) => Trace E ds (fun tr => drawOk all tr = true) (fun S' => E.n0 ≤ S'.bx.length → K S') m l S acc
/-- What must be so of a state that comes to this place. -/
def GoK (E : En) (Q : Exit → St → Prop) : List Fr → Exit → St → Prop
  | [], e, S => Q e S
  | .blk id :: ks, e, S => match e with
    | .exit id' => if id' = id then GoK E Q ks .normal S else GoK E Q ks (.exit id') S
    | e => GoK E Q ks e S
  | .lp R :: ks, e, S => match e with
    | .normal => R S
    | e => GoK E Q ks e S
  | .code c :: ks, e, S => match e with
    | .normal => AWP E c S (GoK E Q ks)
    | e => GoK E Q ks e S
  | .ops m l ds dr :: ks, e, S => match e with
    | .normal => OpsM E ds m l S (GoK E Q ks .normal) dr
    | e => GoK E Q ks e S
def Go (E : En) (Q : Exit → St → Prop) (ks : List Fr) (S : St) : Prop := E.n0 ≤ S.bx.length → GoK E Q ks .normal S

/-! ### 2. Operations that tell all by themselves -/
def memB (b : Nat) : List Nat → Bool
  | [] => false
  | x :: l => if b = x then true else memB b l
theorem memB_iff (b : Nat) (l : List Nat) : memB b l = true ↔ b ∈ l := by
  induction l with
  | nil => simp [memB]
  | cons x l ih =>
    simp only [memB, List.mem_cons]
    split
    · rename_i h; simp [h]
    · rename_i h; simp [h, ih]
theorem memB_not {b : Nat} {l : List Nat} (h : ¬ memB b l = true) : b ∉ l := fun hb => h ((memB_iff b l).2 hb)
def hasN {α : Type} : List α → Nat → Bool
  | _, 0 => true
  | [], _ + 1 => false
  | _ :: l, n + 1 => hasN l n
theorem hasN_spec {α : Type} : ∀ (l : List α) (n : Nat), hasN l n = true → n ≤ l.length
  | _, 0, _ => Nat.zero_le _
  | [], _ + 1, h => by simp [hasN] at h
  | _ :: l, n + 1, h => by simp only [hasN] at h; have := hasN_spec l n h; simp; omega
def takeN {α : Type} : Nat → List α → List α
  | 0, _ => []
  | _ + 1, [] => []
  | n + 1, x :: l => x :: takeN n l
theorem takeN_eq {α : Type} (n : Nat) (l : List α) : takeN n l = l.take n := by
  induction n generalizing l with
  | zero => simp [takeN]
  | succ n ih => cases l <;> simp [takeN, ih]
def dropN {α : Type} : Nat → List α → List α
  | 0, l => l
  | _ + 1, [] => []
  | n + 1, _ :: l => dropN n l
theorem dropN_eq {α : Type} (n : Nat) (l : List α) : dropN n l = l.drop n := by
  induction n generalizing l with
  | zero => simp [dropN]
  | succ n ih => cases l <;> simp [dropN, ih]
def nthC : List C → Nat → C
  | [], _ => .sc (.bool false)
  | x :: _, 0 => x
  | _ :: l, n + 1 => nthC l n
theorem nthC_eq (l : List C) (n : Nat) : nthC l n = l.getD n (.sc (.bool false)) := by
  induction l generalizing n with
  | nil => rfl
  | cons x l ih => cases n <;> simp [nthC, ih]
def nthX {α : Type} : List α → Nat → Option α
  | [], _ => none
  | x :: _, 0 => some x
  | _ :: l, n + 1 => nthX l n
theorem nthX_eq {α : Type} (l : List α) (n : Nat) : nthX l n = l[n]? := by
  induction l generalizing n with
  | nil => rfl
  | cons x l ih => cases n <;> simp [nthX, ih]
def allB {α : Type} (f : α → Bool) : List α → Bool
  | [] => true
  | x :: l => if f x = true then allB f l else false
theorem allB_eq {α : Type} (f : α → Bool) (l : List α) : allB f l = l.all f := by
  induction l with
  | nil => rfl
  | cons x l ih => simp only [allB, List.all_cons]; split <;> simp_all
def mapN {α β : Type} (f : α → β) : List α → List β
  | [] => []
  | x :: l => f x :: mapN f l
theorem mapN_eq {α β : Type} (f : α → β) (l : List α) : mapN f l = l.map f := by
  induction l with
  | nil => rfl
  | cons x l ih => simp [mapN, ih]
def partsN (tm : List (Nat × AV)) : List (Nat × Operand) → List (Nat × AV)
  | [] => []
  | (i, x) :: l => (i, evT tm x) :: partsN tm l
theorem partsN_eq (tm : List (Nat × AV)) (l : List (Nat × Operand)) : partsN tm l = l.map fun p => (p.1, evT tm p.2) := by
  induction l with
  | nil => rfl
  | cons x l ih => cases x; simp [partsN, ih]
def okN (ag : Bool) (n : Nat) : Bool := match ag with | true => true | false => n == 1
theorem okN_spec {ag : Bool} {n : Nat} (h : okN ag n = true) : ag = false → n = 1 := fun e => by subst e; simpa [okN] using h
def aggOr (ag : Bool) (x y : AV) : AV := match ag with | true => x | false => y
theorem aggOr_eq (ag : Bool) (x y : AV) : aggOr ag x y = if ag then x else y := by cases ag <;> rfl
def deadFree (dead : List Nat) : List Nat → Bool
  | [] => true
  | b :: l => if memB b dead = true then false else deadFree dead l
theorem deadFree_spec {dead : List Nat} : ∀ {l : List Nat}, deadFree dead l = true → ∀ b ∈ l, b ∉ dead
  | [], _, b, hb => by simp at hb
  | x :: l, h, b, hb => by
    simp only [deadFree] at h
    split at h
    · simp at h
    · rename_i hx
      rcases List.mem_cons.1 hb with rfl | hb
      · exact memB_not hx
      · exact deadFree_spec h b hb
def detE (tt : TT) (op : Op) (S : St) : Option Eff :=
  match op with
  | .move x => some { res := evT S.tm x }
  | .assign x => some { res := evT S.tm x }
  | .pick c x y => match evT S.tm c with
    | .c (.sc (.bool t)) => some { res := if t = true then evT S.tm x else evT S.tm y }
    | _ => none
  | .binOp op t x y _ => match binV op (evT S.tm x) (evT S.tm y) with
    | some v => some { res := .c (.sc v) }
    | none => match binB op (evT S.tm x) (evT S.tm y), tt t with
      | some b, some i => if i.bl = true then some { res := .c (.sc (.bool b)) } else none
      | _, _ => none
  | .unOp .not _ x => match evT S.tm x with
    | .c (.sc (.bool p)) => some { res := .c (.sc (.bool (!p))) }
    | _ => none
  | .unOp .neg _ x => match evT S.tm x with
    | .c (.sc (.int k p)) => some { res := .c (.sc (.int k (k.wrap (-p)))) }
    | _ => none
  | .extract x i => match evT S.tm x with
    | .tup xs => match nthX xs i with
      | some r => some { res := r }
      | none => none
    | _ => none
  | .field t x f => match evT S.tm x, tt t with
    | .agg cs, some i => match nthX i.fs f with
      | some (off, _, n, ag) => if hasN cs (off + n) = true then if okN ag n = true then some { res := aggOr ag (.agg (takeN n (dropN off cs))) (.c (nthC cs off)) } else none else none
      | none => none
    | _, _ => none
  | .fieldAddr t x f => match tt t with
    | some i => match nthX i.fs f with
      | some (off, _, _, _) => match evT S.tm x with
        | .pt cs => some { res := .pt (dropN off cs) }
        | .ptr b o => some { res := .ptr b (o + off) }
        | .optr b o => some { res := .optr b (o + off) }
        | _ => none
      | none => none
    | none => none
  | .load t x => match tt t with
    | some i => if okN i.ag i.n = true then match evT S.tm x with
      | .pt cs => if hasN cs i.n = true then match i.n with
        | 0 => none
        | _ + 1 => some { res := aggOr i.ag (.agg (takeN i.n cs)) (.c (nthC cs 0)) }
        else none
      | .ptr b off => if memB b S.dead = true then none else match nthB S.bx b with
        | some (.cells cs) => if hasN cs (off + i.n) = true then match i.n, i.ag with
          | 0, _ => none
          | _ + 1, true => if allB isC (takeN i.n (dropN off cs)) = true then some { res := .agg (mapN toC (takeN i.n (dropN off cs))) } else none
          | _ + 1, false => some { res := nth cs off }
          else none
        | _ => none
      | _ => none
      else none
    | none => none
  | .nilCheck x => match evT S.tm x with
    | .pt cs => some { res := .pt cs }
    | .ptr b off => some { res := .ptr b off }
    | _ => none
  | .alloc t => match tt t with
    | some i => match i.zero with
      | [] => none
      | _ :: _ => some { res := .ptr S.bx.length 0, nw := some (.cells i.zero) }
    | none => none
  | .box _ x => match stOf (nthB S.bx) S.dead (evT S.tm x) with
    | some cs => some { res := .ptr S.bx.length 0, nw := some (.cells cs) }
    | none => none
  | .build t parts => match tt t with
    | some i => match i.zero, i.fs with
      | _ :: _, _ :: _ => match fillC (placeOf i.fs) (partsN S.tm parts.toList) (zeroO i.zero) with
        | some f => match allC f with
          | some r => some { res := .agg r }
          | none => none
        | none => none
      | _ :: _, [] => match i.ar with
        | some (_, sz, _, _) => match fillC (placeA sz) (partsN S.tm parts.toList) (zeroO i.zero) with
          | some f => match allC f with
            | some r => some { res := .agg r }
            | none => none
          | none => none
        | none => none
      | _, _ => none
    | none => none
  | .buildSlice t n parts => match tt t with
    | some i => match i.sl with
      | some e => match tt e with
        | some ie => match ie.zero, ie.n with
          | _ :: _, m + 1 => match rowsOf (m + 1) 0 (partsN S.tm parts.toList) with
            | some rs => if rs.length = n ∧ n * (m + 1) ≤ 16777216 then some { res := .own S.bx.length, nw := some (.rows e (m + 1) rs) } else none
            | none => none
          | _, _ => none
        | none => none
      | none => none
    | none => none
  | .makeFunc (.func g) first captured => match first.toList with
    | [] => match capsOf (nthB S.bx) (mapN (evT S.tm) captured.toList) with
      | some (css, fs) => if deadFree S.dead fs = true then some { res := .c (.fn g css), frz := fs } else none
      | none => none
    | _ => none
  | .call { callee := .builtin .len, args := as, argTypes := ts } => match as.toList, ts.toList with
    | [x], [t] => match tt t with
      | some i => match evT S.tm x, i.sl, i.str with
        | .c (.sl rows), some _, _ => some { res := .c (.sc (.int .i64 rows.length)) }
        | .nil, some _, _ => some { res := .c (.sc (.int .i64 0)) }
        | .own b, some _, _ => if memB b S.dead = true then none else match nthB S.bx b with
          | some (.rows _ _ rs) => some { res := .c (.sc (.int .i64 rs.length)) }
          | _ => none
        | .c (.sc (.string s)), _, true => some { res := .c (.sc (.int .i64 s.size)) }
        | _, _, _ => none
      | none => none
    | _, _ => none
  | _ => none

theorem detE_sound {E : En} {o : Oper} {S : St} {e : Eff} (h : detE E.tt o.op S = some e) : LoclS E o S e := by
  unfold LoclS Locl
  cases hop : o.op with
  | move x => rw [hop] at h; simp only [detE, Option.some.injEq] at h; exact h
  | assign x => rw [hop] at h; simp only [detE, Option.some.injEq] at h; exact h
  | pick c x y =>
    rw [hop] at h
    simp only [detE] at h ⊢
    split at h
    · rename_i t ht
      simp only [ht]
      exact Option.some.inj h
    · simp at h
  | binOp op t x y u =>
    rw [hop] at h
    simp only [detE] at h ⊢
    split at h
    · rename_i v hv
      simp only [hv]
      exact Option.some.inj h
    · rename_i hv
      simp only [hv]
      split at h
      · rename_i b i hb hi
        split at h
        · rename_i hbl
          simp only [hb]
          exact ⟨⟨i, hi, hbl⟩, Option.some.inj h⟩
        · simp at h
      · simp at h
  | unOp op t x =>
    rw [hop] at h
    cases op <;> simp only [detE] at h ⊢ <;> first | (simp at h; done) | skip
    all_goals
      split at h
      · rename_i hx
        simp only [hx]
        exact Option.some.inj h
      · simp at h
  | extract x i =>
    rw [hop] at h
    simp only [detE] at h ⊢
    split at h
    · rename_i xs hx
      split at h
      · rename_i r hr
        rw [nthX_eq] at hr
        simp only [hx]
        exact ⟨r, hr, Option.some.inj h⟩
      · simp at h
    · simp at h
  | field t x f =>
    rw [hop] at h
    simp only [detE] at h ⊢
    split at h
    · rename_i cs i hx hi
      split at h
      · rename_i off ty n ag hf
        rw [nthX_eq] at hf
        split at h
        · rename_i hl
          split at h
          · rename_i hk
            simp only [hx]
            refine ⟨i, off, ty, n, ag, hi, hf, hasN_spec _ _ hl, okN_spec hk, ?_⟩
            rw [← Option.some.inj h, aggOr_eq, takeN_eq, dropN_eq, nthC_eq]
          · simp at h
        · simp at h
      · simp at h
    · simp at h
  | fieldAddr t x f =>
    rw [hop] at h
    simp only [detE] at h ⊢
    split at h
    · rename_i i hi
      split at h
      · rename_i off ty n ag hf
        rw [nthX_eq] at hf
        refine ⟨i, off, ty, n, ag, hi, hf, ?_⟩
        split at h <;> first | (simp at h; done) | skip
        all_goals
          rename_i hx
          simp only [hx]
          rw [← Option.some.inj h]
          try rw [dropN_eq]
      · simp at h
    · simp at h
  | load t x =>
    rw [hop] at h
    simp only [detE] at h ⊢
    split at h
    · rename_i i hi
      split at h
      · rename_i hk
        refine ⟨i, hi, okN_spec hk, ?_⟩
        split at h
        · rename_i cs hx
          split at h
          · rename_i hl
            split at h
            · simp at h
            · rename_i m hm
              simp only [hx]
              refine ⟨by omega, hasN_spec _ _ hl, ?_⟩
              rw [← Option.some.inj h, aggOr_eq, takeN_eq, nthC_eq, hm]
          · simp at h
        · rename_i b off hx
          split at h
          · simp at h
          · rename_i hd
            split at h
            · rename_i cs hb
              split at h
              · rename_i hl
                simp only [hx, hb]
                have hl' := hasN_spec _ _ hl
                split at h
                · simp at h
                · rename_i m hm hag
                  split at h
                  · rename_i ha
                    refine ⟨by omega, memB_not hd, hl', fun _ => ?_, ?_⟩
                    · rw [allB_eq, takeN_eq, dropN_eq] at ha
                      exact ha
                    · rw [← Option.some.inj h, hag, mapN_eq, takeN_eq, dropN_eq]
                      rfl
                  · simp at h
                · rename_i m hm hag
                  refine ⟨by omega, memB_not hd, hl', fun ha => by rw [hag] at ha; simp at ha, ?_⟩
                  rw [← Option.some.inj h, hag]
                  rfl
              · simp at h
            · simp at h
        · simp at h
      · simp at h
    · simp at h
  | nilCheck x =>
    rw [hop] at h
    simp only [detE] at h ⊢
    split at h <;> first | (simp at h; done) | skip
    all_goals
      rename_i hx
      simp only [hx]
      exact Option.some.inj h
  | alloc t =>
    rw [hop] at h
    simp only [detE] at h ⊢
    split at h
    · rename_i i hi
      split at h
      · simp at h
      · rename_i z zs hz
        exact ⟨i, hi, by rw [hz]; simp, Option.some.inj h⟩
    · simp at h
  | box t x =>
    rw [hop] at h
    simp only [detE] at h ⊢
    split at h
    · rename_i cs hc
      exact ⟨cs, hc, Option.some.inj h⟩
    · simp at h
  | build t parts =>
    rw [hop] at h
    simp only [detE] at h ⊢
    split at h
    · rename_i i hi
      split at h
      · rename_i z zs f0 fs0 hz hf0
        split at h
        · rename_i f hf
          split at h
          · rename_i r hr
            rw [partsN_eq] at hf
            exact .inr ⟨i, f, r, hi, by rw [hz]; simp, by rw [hf0]; simp, hf, hr, Option.some.inj h⟩
          · simp at h
        · simp at h
      · rename_i z zs hz hf0
        split at h
        · rename_i e sz n ag har
          split at h
          · rename_i f hf
            split at h
            · rename_i r hr
              rw [partsN_eq] at hf
              exact .inl ⟨i, e, sz, n, ag, f, r, hi, by rw [hz]; simp, har, hf, hr, Option.some.inj h⟩
            · simp at h
          · simp at h
        · simp at h
      · simp at h
    · simp at h
  | buildSlice t n parts =>
    rw [hop] at h
    simp only [detE] at h ⊢
    split at h
    · rename_i i hi
      split at h
      · rename_i e' hsl
        split at h
        · rename_i ie hie
          split at h
          · rename_i z zs m hz hm
            split at h
            · rename_i rs hr
              split at h
              · rename_i hc
                rw [partsN_eq] at hr
                refine ⟨i, e', ie, rs, hi, hsl, hie, by rw [hz]; simp, by omega, by rw [hm]; exact hr, hc.1, by rw [hm]; exact hc.2, ?_⟩
                rw [hm]
                exact Option.some.inj h
              · simp at h
            · simp at h
          · simp at h
        · simp at h
      · simp at h
    · simp at h
  | makeFunc fn first captured =>
    rw [hop] at h
    cases fn <;> simp only [detE] at h ⊢ <;> first | (simp at h; done) | skip
    split at h
    · rename_i hf
      split at h
      · rename_i css fs hc
        split at h
        · rename_i hd
          rw [mapN_eq] at hc
          exact ⟨by simpa using hf, css, fs, hc, deadFree_spec hd, Option.some.inj h⟩
        · simp at h
      · simp at h
    · simp at h
  | call c =>
    rw [hop] at h
    obtain ⟨callee, as, ts⟩ := c
    cases callee with
    | builtin bi =>
      cases bi <;> simp only [detE] at h ⊢ <;> first | (simp at h; done) | skip
      split at h
      · rename_i x t has hts
        split at h
        · rename_i i hi
          have has' : as = #[x] := by apply Array.ext'; simpa using has
          have hts' : ts = #[t] := by apply Array.ext'; simpa using hts
          refine ⟨x, t, i, has', hts', hi, ?_⟩
          split at h
          · rename_i rows _ _ hx hs
            simp only [hx, hs]
            exact ⟨rfl, Option.some.inj h⟩
          · rename_i _ hx hs
            simp only [hx, hs]
            exact ⟨rfl, Option.some.inj h⟩
          · rename_i b _ hx hs
            split at h
            · simp at h
            · rename_i hd
              split at h
              · rename_i _ _ rs hb
                simp only [hx, hs, hb]
                exact ⟨rfl, memB_not hd, Option.some.inj h⟩
              · simp at h
          · rename_i s hx hs
            simp only [hx]
            exact ⟨hs, Option.some.inj h⟩
          · simp at h
        · simp at h
      · simp at h
    | _ => simp only [detE] at h; simp at h
  | _ => rw [hop] at h; simp [detE] at h
end Go.Vam
