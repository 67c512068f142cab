/- An abstract machine over data (part 11): regions that draw their order: their text's order is enough. -/
import Derived.Test.YtncipmjchifcgaaVam10
namespace Go.Vam
open Go.RowKit
set_option linter.unusedVariables false
set_option linter.unusedSimpArgs false

/-! ### 1. The text's order, with what was done told -/
inductive TrK where
  | skip
  | op (nb : Nat) (us ks fs : List Nat)
  | st
def usesAll (o : Oper) (S : St) : List Nat :=
  match needU o.op with
  | true => o.op.operands.toList.flatMap fun x => usesOf (evT S.tm x)
  | false => []
def guardM (m : Nat) (ds : List (Option Nat)) (tm : List (Nat × AV)) (g : Option (Nat × Bool)) (r : Bool) : Prop :=
  match m with | 0 => guardV ds tm g r | 2 => r = false | _ => r = true
def Trace (E : En) (ds : List (Option Nat)) (D : List TrK → Prop) (K : St → Prop) : Nat → List Oper → St → List TrK → Prop
  | _, [], S, acc => D acc ∧ K S
  | m, o :: l, S, acc => ∃ r, guardM m ds S.tm o.guard r ∧
      (r = true → (∃ e, LoclS E o S e ∧ dstOk S.nt o.dst = true ∧ Trace E ds D K 0 l (S.app o.dst e) (acc ++ [.op S.bx.length (usesAll o S) e.kill e.frz])) ∨ (l = [] ∧ D (acc ++ [.st]) ∧ OpK E o S K)) ∧
      (r = false → dstOk S.nt o.dst = true ∧ Trace E ds D K 0 l (S.skip o.dst) (acc ++ [.skip]))

def stepS (o : Oper) (x : Option Eff) (S : St) : St :=
  match x with
  | some e => S.app o.dst e
  | none => S.skip o.dst
def entS (o : Oper) (x : Option Eff) (S : St) : TrK :=
  match x with
  | some e => .op S.bx.length (usesAll o S) e.kill e.frz
  | none => .skip
/-- The states, in the text's order. -/
def fS (S : St) (l : List Oper) (es : List (Option Eff)) : Nat → St
  | 0 => S
  | i + 1 => match l[i]?, es[i]? with
    | some o, some x => stepS o x (fS S l es i)
    | _, _ => fS S l es i
def trL (S : St) : List Oper → List (Option Eff) → List TrK
  | o :: l, x :: es => entS o x S :: trL (stepS o x S) l es
  | _, _ => []
theorem fS_cons (S : St) (o : Oper) (x : Option Eff) (l : List Oper) (es : List (Option Eff)) (i : Nat) : fS S (o :: l) (x :: es) (i + 1) = fS (stepS o x S) l es i := by
  induction i with
  | zero => rfl
  | succ i ih =>
    rw [fS]
    simp only [List.getElem?_cons_succ]
    rw [ih]
    rfl
theorem trL_get (l : List Oper) : ∀ (S : St) (es : List (Option Eff)) (i : Nat) (o : Oper) (x : Option Eff), l[i]? = some o → es[i]? = some x → (trL S l es)[i]? = some (entS o x (fS S l es i)) := by
  induction l with
  | nil => intro S es i o x h; simp at h
  | cons o' l ih =>
    intro S es i o x h1 h2
    cases es with
    | nil => simp at h2
    | cons x' es =>
      cases i with
      | zero =>
        simp at h1 h2
        subst h1; subst h2
        rfl
      | succ i =>
        simp only [List.getElem?_cons_succ] at h1 h2
        simp only [trL, List.getElem?_cons_succ, fS_cons]
        exact ih _ es i o x h1 h2
theorem trL_len (l : List Oper) : ∀ (S : St) (es : List (Option Eff)), es.length ≤ l.length → (trL S l es).length = es.length := by
  induction l with
  | nil => intro S es h; cases es <;> simp_all [trL]
  | cons o l ih =>
    intro S es h
    cases es with
    | nil => rfl
    | cons x es => simp only [trL, List.length_cons]; rw [ih _ es (by simpa using h)]

def FactS (E : En) (ds : List (Option Nat)) (S : St) (o : Oper) (x : Option Eff) : Prop := guardV ds S.tm o.guard x.isSome ∧ dstOk S.nt o.dst = true ∧ ∀ e, x = some e → LoclS E o S e
theorem Trace.det {E : En} {ds : List (Option Nat)} {D : List TrK → Prop} {K : St → Prop} : ∀ (l : List Oper) (S : St) (acc : List TrK), Trace E ds D K 0 l S acc → ∃ es : List (Option Eff), es.length ≤ l.length ∧
    (∀ i o x, l[i]? = some o → es[i]? = some x → FactS E ds (fS S l es i) o x) ∧
    ((es.length = l.length ∧ D (acc ++ trL S l es) ∧ K (fS S l es es.length)) ∨ (∃ o, es.length + 1 = l.length ∧ l[es.length]? = some o ∧ guardV ds (fS S l es es.length).tm o.guard true ∧ D (acc ++ trL S l es ++ [.st]) ∧ OpK E o (fS S l es es.length) K))
  | [], S, acc, h => ⟨[], by simp, by simp, .inl ⟨rfl, by simpa [trL, fS, Trace] using h⟩⟩
  | o :: l, S, acc, h => by
    obtain ⟨r, hg, h1, h2⟩ := h
    have go : ∀ (x : Option Eff), FactS E ds S o x → Trace E ds D K 0 l (stepS o x S) (acc ++ [entS o x S]) → ∃ es : List (Option Eff), es.length ≤ (o :: l).length ∧
        (∀ i o' x, (o :: l)[i]? = some o' → es[i]? = some x → FactS E ds (fS S (o :: l) es i) o' x) ∧
        ((es.length = (o :: l).length ∧ D (acc ++ trL S (o :: l) es) ∧ K (fS S (o :: l) es es.length)) ∨ (∃ o', es.length + 1 = (o :: l).length ∧ (o :: l)[es.length]? = some o' ∧ guardV ds (fS S (o :: l) es es.length).tm o'.guard true ∧ D (acc ++ trL S (o :: l) es ++ [.st]) ∧ OpK E o' (fS S (o :: l) es es.length) K)) := fun x hf ht => by
      obtain ⟨es, k1, k2, k3⟩ := Trace.det l _ _ ht
      refine ⟨x :: es, by simpa using k1, fun i o' x' e1 e2 => ?_, ?_⟩
      · cases i with
        | zero => simp at e1 e2; subst e1; subst e2; exact hf
        | succ i => rw [fS_cons]; exact k2 i o' x' (by simpa using e1) (by simpa using e2)
      · rcases k3 with ⟨e1, e0, e2⟩ | ⟨o', e1, e2, e3, e0, e4⟩
        · refine .inl ⟨by simp [e1], ?_, ?_⟩
          · simp only [trL]; simpa using e0
          · simp only [List.length_cons, fS_cons]; exact e2
        · refine .inr ⟨o', by simp [← e1], by simpa using e2, ?_, ?_, ?_⟩
          · simp only [List.length_cons, fS_cons]; exact e3
          · simp only [trL]; simpa using e0
          · simp only [List.length_cons, fS_cons]; exact e4
    cases r with
    | true =>
      rcases h1 rfl with ⟨e, e1, e2, e3⟩ | ⟨rfl, e0, e1⟩
      · exact go (some e) ⟨hg, e2, fun e' he => by cases he; exact e1⟩ e3
      · exact ⟨[], by simp, by simp, .inr ⟨o, rfl, rfl, hg, by simpa [trL] using e0, by simpa [fS] using e1⟩⟩
    | false =>
      obtain ⟨e1, e2⟩ := h2 rfl
      exact go none ⟨hg, e1, fun e' he => by cases he⟩ e2

/-! ### 2. What is asked of a region -/
def memN (b : Nat) : List Nat → Bool
  | [] => false
  | x :: l => if b = x then true else memN b l
theorem memN_iff (b : Nat) (l : List Nat) : memN b l = true ↔ b ∈ l := by
  induction l with
  | nil => simp [memN]
  | cons x l ih =>
    simp only [memN, List.mem_cons]
    split
    · rename_i h; simp [h]
    · rename_i h; simp [h, ih]
def addN (x : Nat) (l : List Nat) : List Nat := if memN x l then l else x :: l
theorem mem_addN {x y : Nat} {l : List Nat} : y ∈ addN x l ↔ y = x ∨ y ∈ l := by
  unfold addN
  split
  · rename_i h
    rw [memN_iff] at h
    constructor
    · exact .inr
    · rintro (rfl | h'); exact h; exact h'
  · simp
def unionN (a b : List Nat) : List Nat := a.foldr addN b
theorem mem_unionN {y : Nat} {a b : List Nat} : y ∈ unionN a b ↔ y ∈ a ∨ y ∈ b := by
  induction a with
  | nil => simp [unionN]
  | cons x a ih =>
    simp only [unionN, List.foldr_cons] at ih ⊢
    rw [mem_addN, ih]
    simp [or_assoc]
def ancE (acc : List (List Nat)) : List Edge → List Nat
  | [] => []
  | e :: l => if Region.binds .any e then unionN (e.on :: (acc[e.on]?).getD []) (ancE acc l) else ancE acc l
def ancL (acc : List (List Nat)) : List Oper → List (List Nat)
  | [] => acc
  | o :: l => ancL (acc ++ [ancE acc o.after.toList]) l
def Closed (ops : Array Oper) (L : Nat → Prop) : Prop := ∀ i o, L i → ops[i]? = some o → ∀ e ∈ o.after, Region.binds .any e = true → L e.on
theorem ancE_spec {acc : List (List Nat)} {L : Nat → Prop} (h : ∀ j x, L j → x ∈ (acc[j]?).getD [] → L x) : ∀ (l : List Edge), (∀ e ∈ l, Region.binds .any e = true → L e.on) → ∀ x ∈ ancE acc l, L x
  | [], _, x, hx => by simp [ancE] at hx
  | e :: l, he, x, hx => by
    simp only [ancE] at hx
    split at hx
    · rename_i hb
      rcases mem_unionN.1 hx with hx | hx
      · have hon := he e (by simp) hb
        rcases List.mem_cons.1 hx with rfl | hx
        · exact hon
        · exact h _ x hon hx
      · exact ancE_spec h l (fun e h1 => he e (by simp [h1])) x hx
    · exact ancE_spec h l (fun e h1 => he e (by simp [h1])) x hx
theorem ancL_spec {ops : Array Oper} {L : Nat → Prop} (hc : Closed ops L) : ∀ (l : List Oper) (acc : List (List Nat)), (∀ i, ops[acc.length + i]? = l[i]?) → (∀ j x, L j → x ∈ (acc[j]?).getD [] → L x) → ∀ j x, L j → x ∈ ((ancL acc l)[j]?).getD [] → L x
  | [], acc, _, h, j, x, hj, hx => h j x hj hx
  | o :: l, acc, hi, h, j, x, hj, hx => by
    refine ancL_spec hc l (acc ++ [ancE acc o.after.toList]) (fun i => ?_) (fun j x hj hx => ?_) j x hj hx
    · have := hi (i + 1)
      simp only [List.getElem?_cons_succ] at this
      rw [← this]
      congr 1
      simp; omega
    · by_cases h1 : j < acc.length
      · rw [List.getElem?_append_left h1] at hx
        exact h j x hj hx
      · rw [List.getElem?_append_right (by omega)] at hx
        by_cases h2 : j = acc.length
        · subst h2
          simp only [Nat.sub_self, List.getElem?_cons_zero, Option.getD_some] at hx
          have ho := hi 0
          simp only [Nat.add_zero, List.getElem?_cons_zero] at ho
          exact ancE_spec h o.after.toList (fun e he hb => hc _ o hj ho e (by simpa using he) hb) x hx
        · rw [List.getElem?_eq_none (by simp; omega)] at hx
          simp at hx
def opTmp : Operand → Option Nat
  | .tmp t => some t
  | _ => none
/-- The temporaries that an operation looks at. -/
def looksN (ds : List (Option Nat)) (o : Oper) : List Nat :=
  (o.op.operands.toList.filterMap opTmp) ++ (match o.guard with | some (j, _) => (nthD ds j).toList | none => [])
def disjN (a b : List Nat) : Bool := a.all fun x => !memN x b
def pairOk (an : List (List Nat)) (ds : List (Option Nat)) (i : Nat) (oi : Oper) (ti : TrK) (j : Nat) (oj : Oper) (tj : TrK) : Bool :=
  (match oj.dst with
    | some t => (oi.dst != some t || i == j) && (!memN t (looksN ds oi) || (if j < i then memN j ((an[i]?).getD []) else if i < j then memN i ((an[j]?).getD []) else true))
    | none => true) &&
  (match ti, tj with
    | .op _ us _ _, .op _ _ ks fs => decide (j ≤ i) || memN i ((an[j]?).getD []) || (disjN us ks && (!needF oi.op || disjN us fs))
    | _, _ => true)
def entOk (n : Nat) (an : List (List Nat)) (i : Nat) : TrK → Bool
  | .st => i + 1 == n && (List.range i).all fun j => memN j ((an[i]?).getD [])
  | .op nb us _ _ => us.all fun b => decide (b < nb)
  | .skip => true
def drawOk (ops : Array Oper) (tr : List TrK) : Bool :=
  let l := ops.toList
  let an := ancL [] l
  let ds := l.map (·.dst)
  let z := l.zip tr
  l.length == tr.length && (List.range z.length).all fun i => match z[i]? with
    | some (oi, ti) =>
      (oi.after.toList.all fun e => !Region.binds .any e || decide (e.on < i)) &&
      entOk l.length an i ti &&
      (List.range z.length).all fun j => match z[j]? with
        | some (oj, tj) => pairOk an ds i oi ti j oj tj
        | none => true
    | none => true

structure Plan (E : En) (S : St) (ops : Array Oper) (es : List (Option Eff)) : Prop where
  le : es.length ≤ ops.size
  fact : ∀ i o x, ops[i]? = some o → es[i]? = some x → FactS E (ops.toList.map (·.dst)) (fS S ops.toList es i) o x
  edge : ∀ (i : Nat) (o : Oper), ops[i]? = some o → ∀ e ∈ o.after, Region.binds .any e = true → e.on < i
  dist : ∀ (i j t : Nat) (oi oj : Oper), ops[i]? = some oi → ops[j]? = some oj → oi.dst = some t → oj.dst = some t → i = j
  tmp : ∀ (i j t : Nat) (oi oj : Oper), ops[i]? = some oi → ops[j]? = some oj → t ∈ looksN (ops.toList.map (·.dst)) oi → oj.dst = some t →
    (j < i → ∀ L, Closed ops L → L i → L j) ∧ (i < j → ∀ L, Closed ops L → L j → L i)
  use : ∀ (i j : Nat) (oi : Oper) (ei ej : Eff), ops[i]? = some oi → es[i]? = some (some ei) → es[j]? = some (some ej) → i < j → ∀ b ∈ usesAll oi (fS S ops.toList es i),
    (b ∈ ej.kill → ∀ L, Closed ops L → L j → L i) ∧ (needF oi.op = true → b ∈ ej.frz → ∀ L, Closed ops L → L j → L i)
  usn : ∀ (i : Nat) (oi : Oper) (ei : Eff), ops[i]? = some oi → es[i]? = some (some ei) → ∀ b ∈ usesAll oi (fS S ops.toList es i), b < (fS S ops.toList es i).bx.length
  last : ∀ k, k + 1 = ops.size → es.length = k → ∀ L, Closed ops L → (∀ j, j < k → (∀ L', Closed ops L' → L' k → L' j))

theorem disjN_spec {a b : List Nat} (h : disjN a b = true) : ∀ x ∈ a, x ∉ b := fun x hx hb => by
  unfold disjN at h
  rw [List.all_eq_true] at h
  have := h x hx
  rw [(memN_iff x b).2 hb] at this
  simp at this
theorem Plan.mk' {E : En} {S : St} {ops : Array Oper} {es : List (Option Eff)} {tail : List TrK} (hle : es.length ≤ ops.size)
    (hf : ∀ i o x, ops[i]? = some o → es[i]? = some x → FactS E (ops.toList.map (·.dst)) (fS S ops.toList es i) o x)
    (ht : tail = [] ∨ tail = [.st]) (h : drawOk ops (trL S ops.toList es ++ tail) = true) : Plan E S ops es := by
  have hanc : ∀ (j x : Nat), x ∈ ((ancL [] ops.toList)[j]?).getD [] → ∀ L, Closed ops L → L j → L x := fun j x hx L hL hj =>
    ancL_spec hL ops.toList [] (fun i => by simp) (by simp) j x hj hx
  unfold drawOk at h
  simp only [Bool.and_eq_true, beq_iff_eq] at h
  obtain ⟨hlen, h⟩ := h
  rw [List.all_eq_true] at h
  have hzl : (ops.toList.zip (trL S ops.toList es ++ tail)).length = ops.size := by
    rw [List.length_zip, ← hlen]; simp
  have hz : ∀ (i : Nat) (o : Oper), ops[i]? = some o → ∃ t, (trL S ops.toList es ++ tail)[i]? = some t ∧ (ops.toList.zip (trL S ops.toList es ++ tail))[i]? = some (o, t) := fun i o ho => by
    have hi : i < ops.size := (Array.getElem?_eq_some_iff.1 ho).1
    have hi2 : i < (trL S ops.toList es ++ tail).length := by rw [← hlen]; simpa using hi
    refine ⟨_, List.getElem?_eq_getElem hi2, ?_⟩
    rw [List.getElem?_zip_eq_some]
    exact ⟨by simpa using ho, List.getElem?_eq_getElem hi2⟩
  have htr : ∀ (i : Nat) (o : Oper) (x : Option Eff), ops[i]? = some o → es[i]? = some x → (trL S ops.toList es ++ tail)[i]? = some (entS o x (fS S ops.toList es i)) := fun i o x ho hx => by
    have h1 := trL_get ops.toList S es i o x (by simpa using ho) hx
    rw [List.getElem?_append_left (List.getElem?_eq_some_iff.1 h1).1]
    exact h1
  have main : ∀ (i : Nat) (o : Oper), ops[i]? = some o → ∃ t, (trL S ops.toList es ++ tail)[i]? = some t ∧ (o.after.toList.all fun e => !Region.binds .any e || decide (e.on < i)) = true ∧
        entOk ops.toList.length (ancL [] ops.toList) i t = true ∧
        ∀ (j : Nat) (oj : Oper), ops[j]? = some oj → ∃ tj, (trL S ops.toList es ++ tail)[j]? = some tj ∧ pairOk (ancL [] ops.toList) (ops.toList.map (·.dst)) i o t j oj tj = true := fun i o ho => by
    have hi : i < ops.size := (Array.getElem?_eq_some_iff.1 ho).1
    obtain ⟨t, h1, h2⟩ := hz i o ho
    have := h i (by rw [List.mem_range, hzl]; exact hi)
    rw [h2] at this
    simp only [Bool.and_eq_true] at this
    refine ⟨t, h1, this.1.1, this.1.2, fun j oj hoj => ?_⟩
    obtain ⟨tj, k1, k2⟩ := hz j oj hoj
    have hj : j < ops.size := (Array.getElem?_eq_some_iff.1 hoj).1
    have := (List.all_eq_true.1 this.2) j (by rw [List.mem_range, hzl]; exact hj)
    rw [k2] at this
    exact ⟨tj, k1, this⟩
  refine ⟨hle, hf, fun i o ho e he hb => ?_, fun i j t oi oj hoi hoj hi hj => ?_, fun i j t oi oj hoi hoj hl hj => ?_, fun i j oi ei ej hoi hei hej hlt b hb => ?_, fun i oi ei hoi hei b hb => ?_, fun k hk hes L hL j hj L' hL' hk' => ?_⟩
  · obtain ⟨t, _, h1, _⟩ := main i o ho
    have := (List.all_eq_true.1 h1) e (by simpa using he)
    rw [hb] at this
    simpa using this
  · obtain ⟨ti, _, _, _, h1⟩ := main i oi hoi
    obtain ⟨tj, _, h2⟩ := h1 j oj hoj
    unfold pairOk at h2
    rw [hj] at h2
    simp only [Bool.and_eq_true] at h2
    have := h2.1.1
    rw [hi] at this
    simpa using this
  · obtain ⟨ti, _, _, _, h1⟩ := main i oi hoi
    obtain ⟨tj, _, h2⟩ := h1 j oj hoj
    unfold pairOk at h2
    rw [hj] at h2
    simp only [Bool.and_eq_true] at h2
    have := h2.1.2
    rw [(memN_iff _ _).2 hl] at this
    simp only [Bool.not_true, Bool.false_or] at this
    refine ⟨fun hlt L hL hLi => ?_, fun hlt L hL hLj => ?_⟩
    · rw [if_pos hlt, memN_iff] at this
      exact hanc _ _ this L hL hLi
    · rw [if_neg (by omega), if_pos hlt, memN_iff] at this
      exact hanc _ _ this L hL hLj
  · obtain ⟨ti, e1, _, _, h1⟩ := main i oi hoi
    have hji : j < ops.size := Nat.lt_of_lt_of_le (List.getElem?_eq_some_iff.1 hej).1 hle
    obtain ⟨tj, e2, h2⟩ := h1 j ops[j] (Array.getElem?_eq_getElem hji)
    rw [htr i oi _ hoi hei] at e1
    rw [htr j _ _ (Array.getElem?_eq_getElem hji) hej] at e2
    simp only [entS, Option.some.injEq] at e1 e2
    subst e1; subst e2
    unfold pairOk at h2
    simp only [Bool.and_eq_true, Bool.or_eq_true, decide_eq_true_eq] at h2
    rcases h2.2 with (h3 | h3) | h3
    · omega
    · rw [memN_iff] at h3
      exact ⟨fun _ L hL hLj => hanc _ _ h3 L hL hLj, fun _ _ L hL hLj => hanc _ _ h3 L hL hLj⟩
    · refine ⟨fun hk => absurd hk (disjN_spec h3.1 b hb), fun hn hk => ?_⟩
      rcases h3.2 with h4 | h4
      · rw [hn] at h4; simp at h4
      · exact absurd hk (disjN_spec h4 b hb)
  · obtain ⟨ti, e1, _, h1, _⟩ := main i oi hoi
    rw [htr i oi _ hoi hei] at e1
    simp only [entS, Option.some.injEq] at e1
    subst e1
    simp only [entOk] at h1
    have := (List.all_eq_true.1 h1) b hb
    simpa using this
  · have hki : k < ops.size := by omega
    obtain ⟨ti, e1, _, h1, _⟩ := main k ops[k] (Array.getElem?_eq_getElem hki)
    have htl : (trL S ops.toList es).length = k := by rw [trL_len _ _ _ (by simpa using hle), hes]
    have ht2 : tail = [.st] := by
      rcases ht with ht | ht
      · subst ht
        simp only [List.append_nil, Array.length_toList] at hlen
        omega
      · exact ht
    subst ht2
    rw [List.getElem?_append_right (by omega), htl, Nat.sub_self] at e1
    simp only [List.getElem?_cons_zero, Option.some.injEq] at e1
    subst e1
    simp only [entOk, Bool.and_eq_true] at h1
    have := (List.all_eq_true.1 h1.2) j (by rw [List.mem_range]; exact hj)
    rw [memN_iff] at this
    exact hanc _ _ this L' hL' hk'

/-! ### 3. The states, in the text's order -/
section
variable {S : St} {l : List Oper} {es : List (Option Eff)}
theorem fS_some {i : Nat} {o : Oper} {x : Option Eff} (ho : l[i]? = some o) (hx : es[i]? = some x) : fS S l es (i + 1) = stepS o x (fS S l es i) := by rw [fS, ho, hx]
theorem fS_nt (i : Nat) : (fS S l es i).nt = S.nt := by
  induction i with
  | zero => rfl
  | succ i ih =>
    rw [fS]
    split
    · rename_i o x _ _
      cases x <;> exact ih
    · exact ih
theorem fS_len (i : Nat) : (fS S l es i).bx.length ≤ (fS S l es (i + 1)).bx.length := by
  rw [fS]
  split
  · rename_i o x _ _
    cases x with
    | none => exact Nat.le_refl _
    | some e => simp only [stepS, app_len]; omega
  · exact Nat.le_refl _
theorem fS_len_le {i j : Nat} (h : i ≤ j) : (fS S l es i).bx.length ≤ (fS S l es j).bx.length := by
  induction h with
  | refl => exact Nat.le_refl _
  | step _ ih => exact Nat.le_trans ih (fS_len _)
theorem fS_bx {i j : Nat} (h : i ≤ j) {b : Nat} (hb : b < (fS S l es i).bx.length) : nthB (fS S l es j).bx b = nthB (fS S l es i).bx b := by
  induction h with
  | refl => rfl
  | @step j hij ih =>
    rw [← ih]
    have hb' := Nat.lt_of_lt_of_le hb (fS_len_le hij (S := S) (l := l) (es := es))
    rw [fS]
    split
    · rename_i o x _ _
      cases x with
      | none => rfl
      | some e => exact app_bx _ _ _ _ hb'
    · rfl
theorem fS_dead {i : Nat} (hi : i ≤ es.length) (hle : es.length ≤ l.length) (b : Nat) : b ∈ (fS S l es i).dead ↔ b ∈ S.dead ∨ ∃ j e, j < i ∧ es[j]? = some (some e) ∧ b ∈ e.kill := by
  induction i with
  | zero => simp [fS]
  | succ i ih =>
    have ih := ih (by omega)
    have ho : l[i]? = some (l[i]'(by omega)) := List.getElem?_eq_getElem _
    have hx : es[i]? = some (es[i]'(by omega)) := List.getElem?_eq_getElem _
    rw [fS_some ho hx]
    cases hq : es[i]'(by omega) with
    | none =>
      simp only [stepS, St.skip, ih]
      constructor
      · rintro (h | ⟨j, e, h1, h2, h3⟩)
        · exact .inl h
        · exact .inr ⟨j, e, by omega, h2, h3⟩
      · rintro (h | ⟨j, e, h1, h2, h3⟩)
        · exact .inl h
        · by_cases hj : j = i
          · subst hj; rw [hx, hq] at h2; simp at h2
          · exact .inr ⟨j, e, by omega, h2, h3⟩
    | some e' =>
      simp only [stepS, St.app, List.mem_append, ih]
      constructor
      · rintro (h | h | ⟨j, e, h1, h2, h3⟩)
        · exact .inr ⟨i, e', by omega, by rw [hx, hq], h⟩
        · exact .inl h
        · exact .inr ⟨j, e, by omega, h2, h3⟩
      · rintro (h | ⟨j, e, h1, h2, h3⟩)
        · exact .inr (.inl h)
        · by_cases hj : j = i
          · subst hj; rw [hx, hq] at h2; simp at h2; subst h2; exact .inl h3
          · exact .inr (.inr ⟨j, e, by omega, h2, h3⟩)
theorem fS_fz {i : Nat} (hi : i ≤ es.length) (hle : es.length ≤ l.length) (b : Nat) : b ∈ (fS S l es i).fz ↔ b ∈ S.fz ∨ ∃ j e, j < i ∧ es[j]? = some (some e) ∧ b ∈ e.frz := by
  induction i with
  | zero => simp [fS]
  | succ i ih =>
    have ih := ih (by omega)
    have ho : l[i]? = some (l[i]'(by omega)) := List.getElem?_eq_getElem _
    have hx : es[i]? = some (es[i]'(by omega)) := List.getElem?_eq_getElem _
    rw [fS_some ho hx]
    cases hq : es[i]'(by omega) with
    | none =>
      simp only [stepS, St.skip, ih]
      constructor
      · rintro (h | ⟨j, e, h1, h2, h3⟩)
        · exact .inl h
        · exact .inr ⟨j, e, by omega, h2, h3⟩
      · rintro (h | ⟨j, e, h1, h2, h3⟩)
        · exact .inl h
        · by_cases hj : j = i
          · subst hj; rw [hx, hq] at h2; simp at h2
          · exact .inr ⟨j, e, by omega, h2, h3⟩
    | some e' =>
      simp only [stepS, St.app, List.mem_append, ih]
      constructor
      · rintro (h | h | ⟨j, e, h1, h2, h3⟩)
        · exact .inr ⟨i, e', by omega, by rw [hx, hq], h⟩
        · exact .inl h
        · exact .inr ⟨j, e, by omega, h2, h3⟩
      · rintro (h | ⟨j, e, h1, h2, h3⟩)
        · exact .inr (.inl h)
        · by_cases hj : j = i
          · subst hj; rw [hx, hq] at h2; simp at h2; subst h2; exact .inl h3
          · exact .inr (.inr ⟨j, e, by omega, h2, h3⟩)
theorem fS_created {i : Nat} (hi : i ≤ es.length) (hle : es.length ≤ l.length) (b : Nat) : b < (fS S l es i).bx.length ↔ b < S.bx.length ∨ ∃ j e, j < i ∧ es[j]? = some (some e) ∧ e.nw.isSome = true ∧ b = (fS S l es j).bx.length := by
  induction i with
  | zero => simp [fS]
  | succ i ih =>
    have ih := ih (by omega)
    have ho : l[i]? = some (l[i]'(by omega)) := List.getElem?_eq_getElem _
    have hx : es[i]? = some (es[i]'(by omega)) := List.getElem?_eq_getElem _
    have hiff : b < (fS S l es (i + 1)).bx.length ↔ b < (fS S l es i).bx.length ∨ ∃ e, es[i]? = some (some e) ∧ e.nw.isSome = true ∧ b = (fS S l es i).bx.length := by
      rw [fS_some ho hx]
      cases hq : es[i]'(by omega) with
      | none =>
        rw [hx, hq]
        simp [stepS, St.skip]
      | some e' =>
        rw [hx, hq]
        simp only [stepS, app_len, Option.some.injEq, exists_eq_left']
        cases e'.nw <;> simp <;> omega
    rw [hiff, ih]
    constructor
    · rintro ((h | ⟨j, e, h1, h2⟩) | ⟨e, h1, h2⟩)
      · exact .inl h
      · exact .inr ⟨j, e, by omega, h2⟩
      · exact .inr ⟨i, e, by omega, h1, h2⟩
    · rintro (h | ⟨j, e, h1, h2⟩)
      · exact .inl (.inl h)
      · by_cases hj : j = i
        · subst hj; exact .inr ⟨e, h2⟩
        · exact .inl (.inr ⟨j, e, by omega, h2⟩)
def resI (es : List (Option Eff)) (j : Nat) : AV :=
  match es[j]? with
  | some (some e) => e.res
  | _ => .und
theorem fS_look {i : Nat} (hi : i ≤ es.length) (hle : es.length ≤ l.length) (t : Nat)
    (hd : ∀ (j k : Nat) (oj ok : Oper), l[j]? = some oj → l[k]? = some ok → oj.dst = some t → ok.dst = some t → j = k) :
    (∀ (j : Nat) (oj : Oper), j < i → l[j]? = some oj → oj.dst = some t → look (fS S l es i).tm t = resI es j) ∧
    ((∀ (j : Nat) (oj : Oper), j < i → l[j]? = some oj → oj.dst ≠ some t) → look (fS S l es i).tm t = look S.tm t) := by
  induction i with
  | zero => exact ⟨fun j oj h => by omega, fun _ => rfl⟩
  | succ i ih =>
    obtain ⟨ih1, ih2⟩ := ih (by omega)
    have ho : l[i]? = some (l[i]'(by omega)) := List.getElem?_eq_getElem _
    have hx : es[i]? = some (es[i]'(by omega)) := List.getElem?_eq_getElem _
    have hl : look (fS S l es (i + 1)).tm t = if (l[i]'(by omega)).dst = some t then resI es i else look (fS S l es i).tm t := by
      rw [fS_some ho hx]
      unfold resI
      rw [hx]
      cases hq : es[i]'(by omega) with
      | none => exact look_put _ _ _ _
      | some e => exact look_put _ _ _ _
    refine ⟨fun j oj hj hoj hdst => ?_, fun h => ?_⟩
    · rw [hl]
      by_cases hji : j = i
      · subst hji
        rw [ho] at hoj
        injection hoj with hoj
        rw [if_pos (by rw [hoj]; exact hdst)]
      · rw [if_neg (fun e => hji (hd j i oj _ hoj ho hdst e))]
        exact ih1 j oj (by omega) hoj hdst
    · rw [hl, if_neg (h i _ (by omega) ho)]
      exact ih2 fun j oj hj => h j oj (by omega)
end

/-! ### 4. Any order -/
section
variable {E : En} {S : St} {ops : Array Oper} {es : List (Option Eff)}
def crL (S : St) (ops : Array Oper) (es : List (Option Eff)) (L : Nat → Prop) (b : Nat) : Prop := b < S.bx.length ∨ ∃ j e, L j ∧ es[j]? = some (some e) ∧ e.nw.isSome = true ∧ b = (fS S ops.toList es j).bx.length
def klL (es : List (Option Eff)) (L : Nat → Prop) (b : Nat) : Prop := ∃ j e, L j ∧ es[j]? = some (some e) ∧ b ∈ e.kill
def fzL (S : St) (es : List (Option Eff)) (L : Nat → Prop) (b : Nat) : Prop := b ∈ S.fz ∨ ∃ j e, L j ∧ es[j]? = some (some e) ∧ b ∈ e.frz
structure InvL (E : En) (S : St) (ops : Array Oper) (es : List (Option Eff)) (L : Nat → Prop) (tm : Nat → AV) (Z : Zone) (β : Nat → Value) (a : Act) (w : World) : Prop where
  g : GSim E S.nt tm (crL S ops es L) (fun b => crL S ops es L b ∧ b ∉ S.dead ∧ ¬ klL es L b) (fzL S es L) (nthB (fS S ops.toList es es.length).bx) Z β a w
  t0 : ∀ t, (∀ j oj, L j → ops[j]? = some oj → oj.dst ≠ some t) → tm t = look S.tm t
  t1 : ∀ j oj t, L j → ops[j]? = some oj → oj.dst = some t → tm t = resI es j
  f : ∀ b, fzL S es L b → crL S ops es L b
  k : ∀ b, klL es L b → crL S ops es L b
  lt : ∀ j, L j → j < es.length
theorem InvL.start {Z : Zone} {β : Nat → Value} {a : Act} {w : World} (hs : Sim E S Z β a w) : InvL E S ops es (fun _ => False) (look S.tm) Z β a w := by
  refine ⟨hs.toGSim.mono (fun b h => .inl h) (fun b h => ?_) (fun b h => .inl h) (fun b h => ?_) (fun t => .inl rfl), fun _ _ => rfl, fun j oj t h => h.elim, fun b h => ?_, fun b h => ?_, fun j h => h.elim⟩
  · rcases h.1 with h1 | ⟨j, e, h1, _⟩
    · exact ⟨h1, h.2.1⟩
    · exact h1.elim
  · rcases h.1 with h1 | ⟨j, e, h1, _⟩
    · exact fS_bx (S := S) (l := ops.toList) (es := es) (Nat.zero_le _) h1
    · exact h1.elim
  · rcases h with h1 | ⟨j, e, h1, _⟩
    · exact .inl (hs.fl b h1)
    · exact h1.elim
  · obtain ⟨j, e, h1, _⟩ := h
    exact h1.elim
theorem InvL.done (hp : Plan E S ops es) {L : Nat → Prop} {tm : Nat → AV} {Z : Zone} {β : Nat → Value} {a : Act} {w : World} (hs0 : ∀ b ∈ S.dead, b < S.bx.length) (h : InvL E S ops es L tm Z β a w) (hall : ∀ j, j < es.length → L j) : Sim E (fS S ops.toList es es.length) Z β a w := by
  have hle : es.length ≤ ops.toList.length := by simpa using hp.le
  have hcr : ∀ b, b < (fS S ops.toList es es.length).bx.length ↔ crL S ops es L b := fun b => by
    rw [fS_created (Nat.le_refl _) hle]
    constructor
    · rintro (h1 | ⟨j, e, h1, h2⟩)
      · exact .inl h1
      · exact .inr ⟨j, e, hall j h1, h2⟩
    · rintro (h1 | ⟨j, e, h1, h2⟩)
      · exact .inl h1
      · exact .inr ⟨j, e, h.lt j h1, h2⟩
  have hkl : ∀ b, b ∈ (fS S ops.toList es es.length).dead ↔ b ∈ S.dead ∨ klL es L b := fun b => by
    rw [fS_dead (Nat.le_refl _) hle]
    constructor
    · rintro (h1 | ⟨j, e, h1, h2⟩)
      · exact .inl h1
      · exact .inr ⟨j, e, hall j h1, h2⟩
    · rintro (h1 | ⟨j, e, h1, h2⟩)
      · exact .inl h1
      · exact .inr ⟨j, e, h.lt j h1, h2⟩
  have hfz : ∀ b, b ∈ (fS S ops.toList es es.length).fz ↔ fzL S es L b := fun b => by
    rw [fS_fz (Nat.le_refl _) hle]
    constructor
    · rintro (h1 | ⟨j, e, h1, h2⟩)
      · exact .inl h1
      · exact .inr ⟨j, e, hall j h1, h2⟩
    · rintro (h1 | ⟨j, e, h1, h2⟩)
      · exact .inl h1
      · exact .inr ⟨j, e, h.lt j h1, h2⟩
  have htm : ∀ t, look (fS S ops.toList es es.length).tm t = tm t := fun t => by
    obtain ⟨k1, k2⟩ := fS_look (S := S) (l := ops.toList) (Nat.le_refl es.length) hle t (fun j k oj ok h1 h2 h3 h4 => hp.dist j k t oj ok (by simpa using h1) (by simpa using h2) h3 h4)
    by_cases hex : ∃ j oj, L j ∧ ops[j]? = some oj ∧ oj.dst = some t
    · obtain ⟨j, oj, h1, h2, h3⟩ := hex
      rw [h.t1 j oj t h1 h2 h3]
      exact k1 j oj (h.lt j h1) (by simpa using h2) h3
    · rw [h.t0 t fun j oj h1 h2 h3 => hex ⟨j, oj, h1, h2, h3⟩]
      exact k2 fun j oj h1 h2 h3 => hex ⟨j, oj, hall j h1, by simpa using h2, h3⟩
  refine ⟨?_, fun b hb => (hcr b).2 (h.f b ((hfz b).1 hb)), fun b hb => (hcr b).2 ?_⟩
  · rw [fS_nt]
    refine h.g.mono (fun b hb => (hcr b).2 hb) (fun b hb => ?_) (fun b hb => (hfz b).2 hb) (fun b hb => rfl) (fun t => .inl (htm t))
    refine ⟨(hcr b).1 hb.1, fun hd => hb.2 ((hkl b).2 (.inl hd)), fun hk => hb.2 ((hkl b).2 (.inr hk))⟩
  · rcases (hkl b).1 hb with h1 | h1
    · exact .inl (hs0 b h1)
    · exact h.k b h1

/-- One operation, out of its turn. -/
theorem InvL.step (hT : TOk E.P E.tt) (hp : Plan E S ops es) {L : Nat → Prop} {tm : Nat → AV} {Z : Zone} {β : Nat → Value} {a : Act} {w : World} (h : InvL E S ops es L tm Z β a w) (hL : Closed ops L)
    {i : Nat} {o : Oper} {x : Option Eff} (hi : ¬ L i) (hL' : Closed ops (fun j => L j ∨ j = i)) (ho : ops[i]? = some o) (hx : es[i]? = some x) :
    Region.wanted o (yielded ops a.tmps) = x.isSome ∧
    match x with
    | none => ∃ tm', InvL E S ops es (fun j => L j ∨ j = i) tm' Z β (a.put o.dst undef) w
    | some e => OpRun E.P o a w fun v w' => ∃ tm' Z' β', InvL E S ops es (fun j => L j ∨ j = i) tm' Z' β' (a.put o.dst v) w' ∧ Evo S.bx.length Z β Z' β' w w' := by
  have hle : es.length ≤ ops.toList.length := by simpa using hp.le
  have hil : i < es.length := (List.getElem?_eq_some_iff.1 hx).1
  have hol : ops.toList[i]? = some o := by simpa using ho
  obtain ⟨f1, f2, f3⟩ := hp.fact i o x ho hx
  rw [fS_nt] at f2
  -- what it looks at is as in the text's order
  have hlook : ∀ t ∈ looksN (ops.toList.map (·.dst)) o, tm t = look (fS S ops.toList es i).tm t := fun t ht => by
    obtain ⟨k1, k2⟩ := fS_look (S := S) (l := ops.toList) (Nat.le_of_lt hil) hle t (fun j k oj ok h1 h2 h3 h4 => hp.dist j k t oj ok (by simpa using h1) (by simpa using h2) h3 h4)
    by_cases hex : ∃ j oj, j < i ∧ ops[j]? = some oj ∧ oj.dst = some t
    · obtain ⟨j, oj, h1, h2, h3⟩ := hex
      have hLj : L j := by
        rcases (hp.tmp i j t o oj ho h2 ht h3).1 h1 _ hL' (.inr rfl) with h4 | h4
        · exact h4
        · omega
      rw [h.t1 j oj t hLj h2 h3, k1 j oj h1 (by simpa using h2) h3]
    · rw [k2 fun j oj h1 h2 h3 => hex ⟨j, oj, h1, by simpa using h2, h3⟩]
      refine h.t0 t fun j oj h1 h2 h3 => ?_
      by_cases hlt : j < i
      · exact hex ⟨j, oj, hlt, h2, h3⟩
      · by_cases hji : j = i
        · exact hi (hji ▸ h1)
        · exact hi ((hp.tmp i j t o oj ho h2 ht h3).2 (by omega) L hL h1)
  refine ⟨?_, ?_⟩
  · refine guardV_spec (tm := tm) f1 fun j want t hg ht => ?_
    have hmem : t ∈ looksN (ops.toList.map (·.dst)) o := by
      unfold looksN
      rw [hg]
      simp only [List.mem_append]
      exact .inr (by rw [ht]; simp)
    have hA := h.g.tr t
    rw [hlook t hmem] at hA
    exact ⟨fun b hb => by rw [hb] at hA; exact hA.bool_inv, fun hb => by rw [hb] at hA; exact hA.und_inv⟩
  have ht1 : ∀ (tm' : Nat → AV) (r : AV), resI es i = r → (∀ t, tm' t = if o.dst = some t then r else tm t) →
      (∀ t, (∀ j oj, (L j ∨ j = i) → ops[j]? = some oj → oj.dst ≠ some t) → tm' t = look S.tm t) ∧ (∀ j oj t, (L j ∨ j = i) → ops[j]? = some oj → oj.dst = some t → tm' t = resI es j) := fun tm' r hr htm' => by
    refine ⟨fun t hn => ?_, fun j oj t hj hoj hdst => ?_⟩
    · rw [htm', if_neg (hn i o (.inr rfl) ho)]
      exact h.t0 t fun j oj hj => hn j oj (.inl hj)
    · rw [htm']
      rcases hj with hj | rfl
      · have : o.dst ≠ some t := fun e => hi (by
          have := hp.dist i j t o oj ho hoj e hdst
          rw [this]; exact hj)
        rw [if_neg this]
        exact h.t1 j oj t hj hoj hdst
      · rw [ho] at hoj
        injection hoj with hoj
        subst hoj
        rw [if_pos hdst, hr]
  cases x with
  | none =>
    refine ⟨_, (h.g.skip f2).mono (fun b hb => ?_) (fun b hb => ?_) (fun b hb => ?_) (fun b hb => rfl) (fun t => .inl rfl), (ht1 _ .und (by unfold resI; rw [hx]) (fun t => rfl)).1, (ht1 _ .und (by unfold resI; rw [hx]) (fun t => rfl)).2, fun b hb => ?_, fun b hb => ?_, fun j hj => ?_⟩
    · rcases hb with h1 | ⟨j, e, h1, h2⟩
      · exact .inl h1
      · exact .inr ⟨j, e, .inl h1, h2⟩
    · have hc : crL S ops es L b := by
        rcases hb.1 with h1 | ⟨j, e, h1 | rfl, h2, h3⟩
        · exact .inl h1
        · exact .inr ⟨j, e, h1, h2, h3⟩
        · rw [hx] at h2; simp at h2
      exact ⟨hc, hb.2.1, fun ⟨j, e, h1, h2⟩ => hb.2.2 ⟨j, e, .inl h1, h2⟩⟩
    · rcases hb with h1 | ⟨j, e, h1, h2⟩
      · exact .inl h1
      · exact .inr ⟨j, e, .inl h1, h2⟩
    · have : fzL S es L b := by
        rcases hb with h1 | ⟨j, e, h1 | rfl, h2, h3⟩
        · exact .inl h1
        · exact .inr ⟨j, e, h1, h2, h3⟩
        · rw [hx] at h2; simp at h2
      rcases h.f b this with h1 | ⟨j, e, h1, h2⟩
      · exact .inl h1
      · exact .inr ⟨j, e, .inl h1, h2⟩
    · have : klL es L b := by
        obtain ⟨j, e, h1 | rfl, h2, h3⟩ := hb
        · exact ⟨j, e, h1, h2, h3⟩
        · rw [hx] at h2; simp at h2
      rcases h.k b this with h1 | ⟨j, e, h1, h2⟩
      · exact .inl h1
      · exact .inr ⟨j, e, .inl h1, h2⟩
    · rcases hj with hj | rfl
      · exact h.lt j hj
      · exact hil
  | some e =>
    simp only
    have hloc := f3 e rfl
    have hcrnew : ∀ b, crL S ops es (fun j => L j ∨ j = i) b ↔ crL S ops es L b ∨ (b = (fS S ops.toList es i).bx.length ∧ e.nw.isSome = true) := fun b => by
      constructor
      · rintro (h1 | ⟨j, e', h1 | rfl, h2, h3, h4⟩)
        · exact .inl (.inl h1)
        · exact .inl (.inr ⟨j, e', h1, h2, h3, h4⟩)
        · rw [hx] at h2; simp at h2; subst h2; exact .inr ⟨h4, h3⟩
      · rintro ((h1 | ⟨j, e', h1, h2⟩) | ⟨h1, h2⟩)
        · exact .inl h1
        · exact .inr ⟨j, e', .inl h1, h2⟩
        · exact .inr ⟨i, e, .inr rfl, hx, h2, h1⟩
    have hsucc : ∀ (j : Nat) (e' : Eff), es[j]? = some (some e') → e'.nw.isSome = true → (fS S ops.toList es j).bx.length < (fS S ops.toList es (j + 1)).bx.length := fun j e' h1 h2 => by
      have hj : j < es.length := (List.getElem?_eq_some_iff.1 h1).1
      have hoj : ops.toList[j]? = some (ops.toList[j]'(by omega)) := List.getElem?_eq_getElem _
      rw [fS_some hoj h1]
      simp only [stepS, app_len, h2, if_true]
      omega
    have hnotcr : e.nw.isSome = true → ¬ crL S ops es L (fS S ops.toList es i).bx.length := fun hn hc => by
      rcases hc with h1 | ⟨j, e', h1, h2, h3, h4⟩
      · have := fS_len_le (S := S) (l := ops.toList) (es := es) (Nat.zero_le i)
        simp only [fS] at this
        omega
      · by_cases hji : j < i
        · have := hsucc j e' h2 h3
          have := fS_len_le (S := S) (l := ops.toList) (es := es) (i := j + 1) (j := i) (by omega)
          omega
        · by_cases hji' : j = i
          · exact hi (hji' ▸ h1)
          · have := hsucc i e hx hn
            have := fS_len_le (S := S) (l := ops.toList) (es := es) (i := i + 1) (j := j) (by omega)
            omega
    have hbxnew : ∀ y, e.nw = some y → nthB (fS S ops.toList es es.length).bx (fS S ops.toList es i).bx.length = some y := fun y hy => by
      have h1 := hsucc i e hx (by rw [hy]; rfl)
      rw [fS_bx (S := S) (l := ops.toList) (es := es) (i := i + 1) (by omega) h1, fS_some hol hx]
      exact app_bx_new _ _ _ y hy
    obtain ⟨hfr, hk, hr⟩ := loc_sound (a := a) (w := w) (bxR := nthB (fS S ops.toList es i).bx) (deadl := (fS S ops.toList es i).dead) (fzl := (fS S ops.toList es i).fz) (nb := (fS S ops.toList es i).bx.length) hT hloc h.g.wr.rebase
      (fun y hy => by
        cases y with
        | tmp t =>
          have := h.g.tr t
          rw [hlook t (by unfold looksN; simp only [List.mem_append, List.mem_filterMap]; exact .inl ⟨.tmp t, by simpa using hy, rfl⟩)] at this
          exact this
        | const v => exact .cAV v
        | func g => exact AR.evT (tm := []) (a := a) (fun t => .any _) (.func g)
        | global g => exact .any _)
      (fun y hy => ⟨hnotcr (by rw [hy]; rfl), fun hf => hnotcr (by rw [hy]; rfl) (h.f _ hf), hbxnew y hy⟩)
      (fun hu y hy b hb hcb => by
        have hus : b ∈ usesAll o (fS S ops.toList es i) := by
          unfold usesAll
          rw [hu]
          exact List.mem_flatMap.2 ⟨y, by simpa using hy, hb⟩
        have hbn := hp.usn i o e ho hx b hus
        refine ⟨fS_bx (S := S) (l := ops.toList) (es := es) (by omega) hbn, fun hd => ⟨hcb, fun hd' => hd ((fS_dead (by omega) hle b).2 (.inl hd')), fun ⟨j, e', h1, h2, h3⟩ => ?_⟩, fun hn hf => ?_⟩
        · by_cases hji : j < i
          · exact hd ((fS_dead (by omega) hle b).2 (.inr ⟨j, e', hji, h2, h3⟩))
          · by_cases hji' : j = i
            · exact hi (hji' ▸ h1)
            · exact hi ((hp.use i j o e e' ho hx h2 (by omega) b hus).1 h3 L hL h1)
        · rcases hf with h1 | ⟨j, e', h1, h2, h3⟩
          · exact (fS_fz (by omega) hle b).2 (.inl h1)
          · by_cases hji : j < i
            · exact (fS_fz (by omega) hle b).2 (.inr ⟨j, e', hji, h2, h3⟩)
            · by_cases hji' : j = i
              · exact (hi (hji' ▸ h1)).elim
              · exact (hi ((hp.use i j o e e' ho hx h2 (by omega) b hus).2 hn h3 L hL h1)).elim)
    refine hr.mono fun v w' hpost => ?_
    obtain ⟨Z', β', g', he, hβ, hkd⟩ := h.g.put f2 hpost
    obtain ⟨q1, q2⟩ := ht1 (fun t => if o.dst = some t then e.res else tm t) e.res (by unfold resI; rw [hx]) (fun t => rfl)
    refine ⟨_, Z', β', ⟨g'.mono (fun b hb => (hcrnew b).2 hb) (fun b hb => ?_) (fun b hb => ?_) (fun b hb => rfl) (fun t => .inl rfl), q1, q2, fun b hb => ?_, fun b hb => ?_, fun j hj => ?_⟩, ⟨he, fun b hb => hβ b (.inl hb), hkd⟩⟩
    · rcases (hcrnew b).1 hb.1 with h1 | h1
      · exact .inl ⟨⟨h1, hb.2.1, fun ⟨j, e', k1, k2⟩ => hb.2.2 ⟨j, e', .inl k1, k2⟩⟩, fun hk' => hb.2.2 ⟨i, e, .inr rfl, hx, hk'⟩⟩
      · exact .inr h1
    · rcases hb with (h1 | ⟨j, e', k1, k2⟩) | h1
      · exact .inl h1
      · exact .inr ⟨j, e', .inl k1, k2⟩
      · exact .inr ⟨i, e, .inr rfl, hx, h1⟩
    · rcases hb with h1 | ⟨j, e', h1 | rfl, h2, h3⟩
      · exact (hcrnew b).2 (.inl (h.f b (.inl h1)))
      · exact (hcrnew b).2 (.inl (h.f b (.inr ⟨j, e', h1, h2, h3⟩)))
      · rw [hx] at h2; simp at h2; subst h2
        exact (hcrnew b).2 (hfr b h3)
    · obtain ⟨j, e', h1 | rfl, h2, h3⟩ := hb
      · exact (hcrnew b).2 (.inl (h.k b ⟨j, e', h1, h2, h3⟩))
      · rw [hx] at h2; simp at h2; subst h2
        exact (hcrnew b).2 (.inl (hk b h3))
    · rcases hj with hj | rfl
      · exact h.lt j hj
      · exact hil

def Ld (listed : Array Bool) (i : Nat) : Prop := listed[i]? = some true
theorem mem_ready {ops : Array Oper} {listed : Array Bool} {i : Nat} (h : i ∈ Region.ready .any ops listed) : i < ops.size ∧ listed.getD i true = false ∧ ∃ o, ops[i]? = some o ∧ ∀ e ∈ o.after, Region.binds .any e = true → Ld listed e.on := by
  unfold Region.ready at h
  rw [List.mem_filter, List.mem_range] at h
  obtain ⟨h1, h2⟩ := h
  simp only [Bool.and_eq_true, Bool.not_eq_true'] at h2
  have ho : ops[i]? = some ops[i] := Array.getElem?_eq_getElem h1
  refine ⟨h1, h2.1, ops[i], ho, fun e he hb => ?_⟩
  have h3 := h2.2
  rw [ho] at h3
  simp only [Option.map_some, Option.getD_some] at h3
  rw [Array.all_eq_true'] at h3
  have h4 := h3 e he
  rw [hb] at h4
  simp only [Bool.not_true, Bool.false_or] at h4
  unfold Ld
  rw [Array.getD_eq_getD_getElem?] at h4
  cases hq : listed[e.on]? with
  | none => rw [hq] at h4; simp at h4
  | some v => rw [hq] at h4; simp at h4; rw [h4]
theorem ready_of {ops : Array Oper} {listed : Array Bool} {i : Nat} {o : Oper} (ho : ops[i]? = some o) (hl : listed.size = ops.size) (hi : ¬ Ld listed i) (he : ∀ e ∈ o.after, Region.binds .any e = true → Ld listed e.on) : i ∈ Region.ready .any ops listed := by
  have h1 : i < ops.size := (Array.getElem?_eq_some_iff.1 ho).1
  unfold Region.ready
  rw [List.mem_filter, List.mem_range]
  refine ⟨h1, ?_⟩
  rw [ho]
  simp only [Bool.and_eq_true, Bool.not_eq_true', Option.map_some, Option.getD_some]
  refine ⟨?_, ?_⟩
  · rw [Array.getD_eq_getD_getElem?, Array.getElem?_eq_getElem (by omega)]
    simp only [Option.getD_some]
    cases hq : listed[i]'(by omega) with
    | false => rfl
    | true => exact (hi (by unfold Ld; rw [Array.getElem?_eq_getElem (by omega), hq])).elim
  · rw [Array.all_eq_true']
    intro e he'
    cases hb : Region.binds .any e with
    | false => rfl
    | true =>
      have := he e he' hb
      unfold Ld at this
      simp [Array.getD_eq_getD_getElem?, this]
theorem ready_nil {ops : Array Oper} {listed : Array Bool} (hl : listed.size = ops.size) (hedge : ∀ (i : Nat) (o : Oper), ops[i]? = some o → ∀ e ∈ o.after, Region.binds .any e = true → e.on < i) (h : Region.ready .any ops listed = []) : ∀ i, i < ops.size → Ld listed i := by
  intro i
  induction i using Nat.strongRecOn with
  | _ i ih =>
    intro hi
    refine Classical.byContradiction fun hn => ?_
    have := ready_of (Array.getElem?_eq_getElem hi) hl hn fun e he hb => by
      have hlt := hedge i _ (Array.getElem?_eq_getElem hi) e he hb
      exact ih e.on hlt (by omega)
    rw [h] at this
    simp at this
theorem Ld_set {listed : Array Bool} {i : Nat} (hi : i < listed.size) (j : Nat) : Ld (listed.setIfInBounds i true) j ↔ Ld listed j ∨ j = i := by
  unfold Ld
  rw [Array.getElem?_setIfInBounds]
  by_cases h : i = j
  · subst h; simp [hi]
  · simp [h, Ne.symm h]
def cnt (listed : Array Bool) : Nat := (listed.toList.filter (!·)).length
theorem cnt_set {listed : Array Bool} {i : Nat} (hi : i < listed.size) (h : ¬ Ld listed i) : cnt (listed.setIfInBounds i true) + 1 = cnt listed := by
  obtain ⟨l⟩ := listed
  have key : ∀ (l : List Bool) (i : Nat), i < l.length → l[i]? ≠ some true → ((l.set i true).filter (!·)).length + 1 = (l.filter (!·)).length := fun l => by
    induction l with
    | nil => intro i h; simp at h
    | cons x l ih =>
      intro i h1 h2
      cases i with
      | zero =>
        cases x
        · simp
        · simp at h2
      | succ i =>
        have := ih i (by simpa using h1) (by simpa using h2)
        cases x <;> simp_all
  have := key l i (by simpa using hi) (by simpa [Ld] using h)
  simpa [cnt] using this
theorem cnt_zero {listed : Array Bool} (h : cnt listed = 0) : ∀ i, i < listed.size → Ld listed i := fun i hi => by
  unfold cnt at h
  have h' := List.eq_nil_of_length_eq_zero h
  rw [List.filter_eq_nil_iff] at h'
  unfold Ld
  rw [Array.getElem?_eq_getElem hi]
  have := h' listed[i] (by simp)
  cases hq : listed[i]
  · rw [hq] at this; simp at this
  · rfl
theorem Sim.drawn {Z : Zone} {β : Nat → Value} {a : Act} {w : World} {n : Nat} (hs : Sim E S Z β a w) : Sim E S Z β a { w with drawn := n } := by
  have hb : Below w.heap.size w { w with drawn := n } := ⟨rfl, rfl, rfl, Nat.le_refl _, fun _ _ => rfl⟩
  exact ⟨⟨hs.wr.still hb, hs.z0, hs.zn, hs.tsz, fun t => (hs.tr t).still hb hs.wr.zin, hs.df.kept rfl ⟨Nat.le_refl _, fun _ h => h⟩⟩, hs.fl, hs.dl⟩
theorem any_sound (hT : TOk E.P E.tt) (hp : Plan E S ops es) {Z0 : Zone} {β0 : Nat → Value} {w0 : World} {K : St → Prop} {Q : Exit → Act → World → Prop} (hn : E.n0 ≤ S.bx.length) (hd0 : ∀ b ∈ S.dead, b < S.bx.length)
    (hend : (es.length = ops.size ∧ K (fS S ops.toList es es.length)) ∨ (∃ o, es.length + 1 = ops.size ∧ ops[es.length]? = some o ∧ guardV (ops.toList.map (·.dst)) (fS S ops.toList es es.length).tm o.guard true ∧ OpK E o (fS S ops.toList es es.length) K))
    (hq : ∀ a' w', After E E.n0 Z0 β0 w0 K a' w' → Q .normal a' w') :
    ∀ (fuel : Nat) (listed : Array Bool) (tm : Nat → AV) (Z : Zone) (β : Nat → Value) (a : Act) (w : World), cnt listed = fuel → listed.size = ops.size → Closed ops (Ld listed) → InvL E S ops es (Ld listed) tm Z β a w → Evo S.bx.length Z0 β0 Z β w0 w →
      wpAnyIn (fenceR E.rd) 0 E.P .any ops Q fuel listed a w := by
  intro fuel
  have hlen : (S.bx.length) ≤ (fS S ops.toList es es.length).bx.length := fS_len_le (S := S) (l := ops.toList) (es := es) (Nat.zero_le _)
  have fin : ∀ (listed : Array Bool) (tm : Nat → AV) (Z : Zone) (β : Nat → Value) (a : Act) (w : World), listed.size = ops.size → InvL E S ops es (Ld listed) tm Z β a w → Evo S.bx.length Z0 β0 Z β w0 w → (∀ i, i < ops.size → Ld listed i) → Q .normal a w := fun listed tm Z β a w hl hI hE hall => by
    rcases hend with ⟨h1, h2⟩ | ⟨o, h1, _⟩
    · have hs := hI.done hp hd0 fun j hj => hall j (by omega)
      exact hq _ _ ⟨_, Z, β, hs, hE.mono hn, Nat.le_trans hn hlen, h2⟩
    · have := hI.lt es.length (hall es.length (by omega))
      omega
  induction fuel with
  | zero =>
    intro listed tm Z β a w hc hl hcl hI hE
    have hall : ∀ i, i < ops.size → Ld listed i := fun i hi => cnt_zero hc i (by omega)
    refine ⟨?_, fin listed tm Z β a w hl hI hE hall⟩
    refine List.eq_nil_iff_forall_not_mem.2 fun i hi => ?_
    obtain ⟨h1, h2, _⟩ := mem_ready hi
    have := hall i h1
    unfold Ld at this
    simp [Array.getD_eq_getD_getElem?, this] at h2
  | succ fuel ih =>
    intro listed tm Z β a w hc hl hcl hI hE
    refine ⟨fun h => fin listed tm Z β a w hl hI hE (ready_nil hl hp.edge h), fun i hi => ?_⟩
    obtain ⟨h1, h2, o, ho, he⟩ := mem_ready hi
    have hni : ¬ Ld listed i := fun h => by
      unfold Ld at h
      simp [Array.getD_eq_getD_getElem?, h] at h2
    have hset : ∀ j, Ld (listed.setIfInBounds i true) j ↔ Ld listed j ∨ j = i := Ld_set (by omega)
    have hfun : Ld (listed.setIfInBounds i true) = fun j => Ld listed j ∨ j = i := funext fun j => propext (hset j)
    have hcl' : Closed ops (fun j => Ld listed j ∨ j = i) := fun j oj hj hoj e he' hb => by
      rcases hj with hj | rfl
      · exact .inl (hcl j oj hj hoj e he' hb)
      · rw [ho] at hoj
        injection hoj with hoj
        subst hoj
        exact .inl (he e he' hb)
    have hc' : cnt (listed.setIfInBounds i true) = fuel := by have := cnt_set (by omega) hni; omega
    have hl' : (listed.setIfInBounds i true).size = ops.size := by simpa using hl
    unfold wpOpIn
    rw [ho]
    simp only
    by_cases hie : i < es.length
    · obtain ⟨x, hx⟩ : ∃ x, es[i]? = some x := ⟨_, List.getElem?_eq_getElem hie⟩
      obtain ⟨hw, hstep⟩ := hI.step hT hp hcl hni hcl' ho hx
      rw [hw]
      cases x with
      | none =>
        simp only [Option.isSome_none, Bool.false_eq_true, if_false]
        obtain ⟨tm', hI'⟩ := hstep
        refine ⟨fun _ _ => trivial, ?_⟩
        exact ih _ tm' Z β _ _ hc' hl' (by rw [hfun]; exact hcl') (by rw [hfun]; exact hI') hE
      | some e =>
        simp only [Option.isSome_some, if_true]
        refine (hstep.wp fun v w' ⟨tm', Z', β', hI', hE'⟩ => ?_)
        exact ih _ tm' Z' β' _ _ hc' hl' (by rw [hfun]; exact hcl') (by rw [hfun]; exact hI') (hE.trans hE')
    · -- the last one
      rcases hend with ⟨h3, _⟩ | ⟨o', h3, h4, h5, h6⟩
      · omega
      · have hik : i = es.length := by omega
        subst hik
        rw [ho] at h4
        injection h4 with h4
        subst h4
        have hall : ∀ j, j < es.length → Ld listed j := fun j hj => by
          rcases hp.last es.length h3 rfl _ hcl' j hj _ hcl' (.inr rfl) with h | h
          · exact h
          · omega
        have hs := hI.done hp hd0 hall
        have hw : Region.wanted o (yielded ops a.tmps) = true := guardV_spec (tm := look (fS S ops.toList es es.length).tm) h5 fun j want t _ _ => ⟨fun b hb => by
          have := hs.tr t; rw [hb] at this; exact this.bool_inv, fun hb => by have := hs.tr t; rw [hb] at this; exact this.und_inv⟩
        rw [hw]
        simp only [if_true]
        have hall' : ∀ j, j < ops.size → Ld (listed.setIfInBounds es.length true) j := fun j hj => by
          rw [hset]
          by_cases hj' : j < es.length
          · exact .inl (hall j hj')
          · exact .inr (by omega)
        have hnil : Region.ready .any ops (listed.setIfInBounds es.length true) = [] := List.eq_nil_iff_forall_not_mem.2 fun j hj => by
          obtain ⟨k1, k2, _⟩ := mem_ready hj
          have := hall' j k1
          unfold Ld at this
          simp only [Array.getD_eq_getD_getElem?] at k2
          rw [this] at k2
          simp at k2
        refine ((h6 Z β a w hs).wp fun v w' hA => ?_)
        have hQ : Q .normal (a.put o.dst v) w' := hq _ _ (hA.trans (hE.mono hn))
        cases fuel with
        | zero => exact ⟨hnil, hQ⟩
        | succ n => exact ⟨fun _ => hQ, fun j hj => by rw [hnil] at hj; simp at hj⟩
theorem AWP.draw (hT : TOk E.P E.tt) (hm : E.P.follows .mixedOrders = true) {id : Nat} {Q : Exit → St → Prop} (hn : E.n0 ≤ S.bx.length)
    (h : Trace E (ops.toList.map (·.dst)) (fun tr => drawOk ops tr = true) (fun S' => Q .normal S') 0 ops.toList S []) : AWP E (.region id ops true) S Q := fun Z β a w hs => by
  obtain ⟨es, h1, h2, h3⟩ := Trace.det _ _ _ h
  have h1' : es.length ≤ ops.size := by simpa using h1
  have h2' : ∀ i o x, ops[i]? = some o → es[i]? = some x → FactS E (ops.toList.map (·.dst)) (fS S ops.toList es i) o x := fun i o x ho hx => h2 i o x (by simpa using ho) hx
  refine wpIn_region_any hm ?_
  have hs1 := hs.drawn (n := w.drawn + 1)
  have he1 : Evo S.bx.length Z β Z β w { w with drawn := w.drawn + 1 } := ⟨ext_of_below ⟨rfl, rfl, rfl, Nat.le_refl _, fun _ _ => rfl⟩ hs.wr.zin, fun _ _ => rfl, ⟨Nat.le_refl _, fun _ h => h⟩⟩
  have hfun : Ld (Array.replicate ops.size false) = fun _ => False := funext fun j => propext ⟨fun h => by
    unfold Ld at h
    rw [Array.getElem?_replicate] at h
    split at h <;> simp at h, fun h => h.elim⟩
  have hcnt : cnt (Array.replicate ops.size false) = ops.size := by simp [cnt]
  have hcl : Closed ops (fun _ => False) := fun i o hi => hi.elim
  rcases h3 with ⟨e1, hdr, hk⟩ | ⟨o, e1, e2, e3, hdr, e4⟩
  · have hp : Plan E S ops es := Plan.mk' (tail := []) h1' h2' (.inl rfl) (by simpa using hdr)
    exact any_sound hT hp hn hs.dl (.inl ⟨by simpa using e1, hk⟩) (K := fun S' => Q .normal S') (fun a' w' hA => hA) ops.size _ _ Z β a _ hcnt (by simp) (by rw [hfun]; exact hcl) (by rw [hfun]; exact .start hs1) he1
  · have hp : Plan E S ops es := Plan.mk' (tail := [.st]) h1' h2' (.inr rfl) (by simpa using hdr)
    exact any_sound hT hp hn hs.dl (.inr ⟨o, by simpa using e1, by simpa using e2, e3, e4⟩) (K := fun S' => Q .normal S') (fun a' w' hA => hA) ops.size _ _ Z β a _ hcnt (by simp) (by rw [hfun]; exact hcl) (by rw [hfun]; exact .start hs1) he1
end
end Go.Vam
