/- Named patches: plain laws. -/
import Derived.Test.YtmfbcgheffdghaaGreatG11
set_option linter.unusedSimpArgs false
set_option linter.unusedVariables false
namespace Go.Qm
open Go.RowKit Go.Vam
set_option linter.unusedSimpArgs false
set_option linter.unusedVariables false

def idEq (a b : Id) : Bool := a.who == b.who && a.no == b.no
theorem idEq_iff {a b : Id} : idEq a b = true ↔ a = b := by
  cases a; cases b; simp [idEq]
theorem idEq_refl (a : Id) : idEq a a = true := by simp [idEq]
theorem idEq_comm (a b : Id) : idEq a b = idEq b a := by
  have : idEq a b = true ↔ idEq b a = true := by rw [idEq_iff, idEq_iff]; exact eq_comm
  cases h1 : idEq a b <;> cases h2 : idEq b a <;> simp_all
def idLess (a b : Id) : Bool := decide (a.who < b.who) || (a.who == b.who && decide (a.no < b.no))
theorem idLess_iff {a b : Id} : idLess a b = true ↔ a.who < b.who ∨ a.who = b.who ∧ a.no < b.no := by simp [idLess]
def idOk (x : Id) : Bool := decide (x.who ≥ 0) && decide (x.who < 8) && decide (x.no ≥ 1) && decide (x.no ≤ 1048576)
def pairAt (l : List Id) (j : Nat) : Bool := match l[j]?, l[j + 1]? with
  | some a, some b => idLess a b
  | _, _ => true
def pairsL (l : List Id) : Bool := (List.range l.length).all (pairAt l)
theorem pairsL_iff {l : List Id} : pairsL l = true ↔ ∀ j (h : j + 1 < l.length), idLess l[j] l[j + 1] = true := by
  unfold pairsL
  rw [List.all_eq_true]
  constructor
  · intro h j hj
    have := h j (by rw [List.mem_range]; omega)
    unfold pairAt at this
    rw [List.getElem?_eq_getElem (by omega), List.getElem?_eq_getElem hj] at this
    exact this
  · intro h j hj
    unfold pairAt
    by_cases h2 : j + 1 < l.length
    · rw [List.getElem?_eq_getElem (by omega), List.getElem?_eq_getElem h2]
      exact h j h2
    · rw [List.getElem?_eq_none (l := l) (i := j + 1) (by omega)]
      split <;> simp_all
theorem pairsL_not {l : List Id} {j : Nat} (h : j + 1 < l.length) (hn : idLess l[j] l[j + 1] = false) : pairsL l = false := by
  cases hp : pairsL l with
  | false => rfl
  | true => rw [pairsL_iff] at hp; rw [hp j h] at hn; simp at hn
def oddId (p x : Id) : Bool := !idOk x || idEq x p
def mayN (p : Named) : Bool := idOk p.id && decide ((p.deps.length : Int) ≤ 60) && !p.deps.any (oddId p.id) && pairsL p.deps && lineOk p.text && decide ((p.l.length : Int) ≤ 200) && p.l.all mayP
theorem mayN_odd {p : Named} {i : Nat} (h : i < p.deps.length) (ho : oddId p.id p.deps[i] = true) : mayN p = false := by
  have : p.deps.any (oddId p.id) = true := List.any_eq_true.2 ⟨_, List.getElem_mem h, ho⟩
  simp [mayN, this]
theorem mayN_pairs {p : Named} (h : pairsL p.deps = false) : mayN p = false := by simp [mayN, h]
def sameN (p q : Named) : Bool := idEq p.id q.id && p.text == q.text && all2 idEq p.deps q.deps && all2 primEq p.l q.l
theorem all2_refl_of {α : Type} {f : α → α → Bool} (l : List α) (h : ∀ x, f x x = true) : all2 f l l = true := by
  induction l with
  | nil => rfl
  | cons x l ih => simp [all2, h, ih]
theorem sameN_refl (p : Named) : sameN p p = true := by
  unfold sameN
  rw [idEq_refl, all2_refl_of p.deps idEq_refl, all2_refl]
  simp [str_beq]
def allN (l : List Named) : List Prim := (l.map (·.l)).flatten
theorem allN_take {l : List Named} {i : Nat} (h : i < l.length) : allN (l.take (i + 1)) = allN (l.take i) ++ l[i].l := by
  unfold allN
  rw [List.take_add_one, List.getElem?_eq_getElem h, List.map_append, List.flatten_append]
  simp
theorem allN_append (a b : List Named) : allN (a ++ b) = allN a ++ allN b := by simp [allN]
theorem allN_mem {l : List Named} {q : Prim} (h : q ∈ allN l) : ∃ p ∈ l, q ∈ p.l := by
  obtain ⟨m, h1, h2⟩ := List.mem_flatten.1 h
  obtain ⟨p, h3, rfl⟩ := List.mem_map.1 h1
  exact ⟨p, h3, h2⟩
def lightN (p : Named) (n : Int) : Bool := few p.l n && decide ((p.deps.length : Int) ≤ 100) && decide ((p.text.size : Int) ≤ 200)
def fewN (l : List Named) (n : Int) : Bool := decide ((l.length : Int) ≤ n) && l.all fun p => lightN p 10
theorem fewN_len {l : List Named} {n : Int} (h : fewN l n = true) : (l.length : Int) ≤ n := by simp [fewN] at h; exact h.1
theorem allN_len {l : List Named} {n : Nat} (h : ∀ p ∈ l, p.l.length ≤ n) : (allN l).length ≤ l.length * n := by
  induction l with
  | nil => simp [allN]
  | cons p l ih =>
    have h1 := ih fun q hq => h q (by simp [hq])
    have h2 := h p (by simp)
    have : (allN (p :: l)).length = p.l.length + (allN l).length := by simp [allN]
    rw [this, List.length_cons, Nat.succ_mul]
    omega
theorem fewN_all {l : List Named} {n : Int} (h : fewN l n = true) : (allN l).length ≤ l.length * 10 := by
  refine allN_len fun p hp => ?_
  have h2 : lightN p 10 = true := by simp only [fewN, Bool.and_eq_true, List.all_eq_true] at h; exact h.2 p hp
  simp only [lightN, Bool.and_eq_true] at h2
  have := few_len h2.1.1
  omega
def findN (l : List Named) (x : Id) : Int := idxI (fun p => idEq p.id x) l
theorem idxI_append {α : Type} (f : α → Bool) (a b : List α) : idxI f (a ++ b) = if idxI f a ≥ 0 then idxI f a else if idxI f b ≥ 0 then (a.length : Int) + idxI f b else -1 := by
  unfold idxI
  rw [List.any_append, List.findIdx_append]
  by_cases ha : a.any f = true
  · have hl : a.findIdx f < a.length := by
      obtain ⟨x, hx, hf⟩ := List.any_eq_true.1 ha
      exact List.findIdx_lt_length_of_exists ⟨x, hx, hf⟩
    simp only [ha, Bool.true_or, if_true, if_pos hl]
    rw [if_pos (Int.natCast_nonneg _)]
  · have ha' : a.any f = false := by simpa using ha
    have h3 : a.findIdx f = a.length := by
      rw [List.any_eq_false] at ha'
      exact List.findIdx_eq_length.2 fun x hx => by simpa using ha' x hx
    have hn : ¬ a.findIdx f < a.length := by omega
    simp only [ha', Bool.false_or, Bool.false_eq_true, if_false, if_neg hn]
    cases hb : b.any f
    · simp
    · simp; omega
theorem findN_append (a b : List Named) (x : Id) : findN (a ++ b) x = if findN a x ≥ 0 then findN a x else if findN b x ≥ 0 then (a.length : Int) + findN b x else -1 := idxI_append _ a b
theorem idLess_asym {a b : Id} (h : idLess a b = true) : idLess b a = false := by
  cases h2 : idLess b a with
  | false => rfl
  | true => rw [idLess_iff] at h h2; omega
theorem idLess_tri (a b : Id) : (idLess a b || idLess b a) = !idEq a b := by
  cases h : idEq a b with
  | true =>
    rw [idEq_iff] at h
    subst h
    cases h1 : idLess a a with
    | false => rfl
    | true => rw [idLess_iff] at h1; omega
  | false =>
    cases h1 : idLess a b with
    | true => rfl
    | false =>
      cases h2 : idLess b a with
      | true => rfl
      | false =>
        exfalso
        have n1 : ¬ idLess a b = true := by rw [h1]; simp
        have n2 : ¬ idLess b a = true := by rw [h2]; simp
        rw [idLess_iff] at n1 n2
        have : idEq a b = true := by simp [idEq]; omega
        rw [h] at this
        simp at this
theorem idLess_trans {a b c : Id} (h1 : idLess a b = true) (h2 : idLess b c = true) : idLess a c = true := by
  rw [idLess_iff] at *
  omega
theorem mayN_less {p : Named} {n k : Nat} (h : mayN p = true) : mayN ⟨p.id, p.deps.drop n, p.text, p.l.take k⟩ = true := by
  simp only [mayN, Bool.and_eq_true, decide_eq_true_eq, Bool.not_eq_true'] at h ⊢
  obtain ⟨⟨⟨⟨⟨⟨h1, h2⟩, h3⟩, h4⟩, h5⟩, h6⟩, h7⟩ := h
  refine ⟨⟨⟨⟨⟨⟨h1, by simp; omega⟩, ?_⟩, ?_⟩, h5⟩, by simp; omega⟩, ?_⟩
  · rw [List.any_eq_false] at h3 ⊢
    exact fun x hx => h3 x (List.mem_of_mem_drop hx)
  · rw [pairsL_iff] at h4 ⊢
    intro j hj
    simp only [List.length_drop] at hj
    have := h4 (n + j) (by omega)
    simpa [List.getElem_drop, Nat.add_assoc] using this
  · rw [List.all_eq_true] at h7 ⊢
    exact fun x hx => h7 x (List.mem_of_mem_take hx)
theorem mayN_twice {p : Named} {x : Id} {i : Id} {t : Str} {l : List Prim} (h : p.deps.getLast? = some x) : mayN ⟨i, p.deps ++ [x], t, l⟩ = false := by
  refine mayN_pairs ?_
  simp only
  obtain ⟨ds, hd⟩ := List.getLast?_eq_some_iff.1 h
  rw [hd]
  refine pairsL_not (j := ds.length) (by simp) ?_
  have : idLess x x = false := by
    cases h1 : idLess x x with
    | false => rfl
    | true => rw [idLess_iff] at h1; omega
  simpa [List.getElem_append] using this
end Go.Qm

/- Named patches that pass one another: plain laws. -/
namespace Go.Qm
open Go.RowKit Go.Vam
set_option linter.unusedSimpArgs false
set_option linter.unusedVariables false

def withL (p : Named) (l : List Prim) : Named := ⟨p.id, p.deps, p.text, l⟩
def passN (p q : Named) : Option (Named × Named) :=
  if q.deps.any (fun i => idEq i p.id) = true then none
  else match passL p.l q.l with
    | some (x, y) => some (withL q x, withL p y)
    | none => none
theorem passN_iff {p q x y : Named} : passN p q = some (x, y) ↔ q.deps.any (fun i => idEq i p.id) = false ∧ ∃ f m, passL p.l q.l = some (f, m) ∧ x = withL q f ∧ y = withL p m := by
  unfold passN
  constructor
  · intro h
    split at h
    · simp at h
    · rename_i hd
      split at h
      · rename_i f m e
        simp only [Option.some.injEq, Prod.mk.injEq] at h
        exact ⟨by simpa using hd, f, m, e, h.1.symm, h.2.symm⟩
      · simp at h
  · rintro ⟨h1, f, m, h2, rfl, rfl⟩
    rw [if_neg (by rw [h1]; simp), h2]
theorem passN_same {p q x y : Named} (h : passN p q = some (x, y)) : x.id = q.id ∧ x.deps = q.deps ∧ x.text = q.text ∧ x.l.length = q.l.length ∧ y.id = p.id ∧ y.deps = p.deps ∧ y.text = p.text ∧ y.l.length = p.l.length := by
  obtain ⟨h1, f, m, h2, rfl, rfl⟩ := passN_iff.1 h
  obtain ⟨l1, l2⟩ := passL_len h2
  exact ⟨rfl, rfl, rfl, l1, rfl, rfl, rfl, l2⟩
theorem passN_back {p q x y : Named} {u v : Int} (h : passN p q = some (x, y)) (hd : p.deps.any (fun i => idEq i q.id) = false) (h1 : atMost u p.l) (h2 : atMost v q.l) (hu : u + 200 * q.l.length ≤ 1048376) (hv : v + 200 * p.l.length ≤ 1048376) : passN x y = some (p, q) := by
  obtain ⟨k1, f, m, k2, rfl, rfl⟩ := passN_iff.1 h
  exact passN_iff.2 ⟨hd, p.l, q.l, passL_back k2 h1 h2 hu hv, rfl, rfl⟩
/-! ### Past many -/
def overN : List Named → Named → Option (Named × List Named)
  | [], q => some (q, [])
  | p :: l, q => match overN l q with
    | none => none
    | some (x, l') => match passN p x with
      | none => none
      | some (y, p') => some (y, p' :: l')
theorem overN_cons {p : Named} {l : List Named} {q y : Named} {m : List Named} : overN (p :: l) q = some (y, m) ↔ ∃ x p' l', overN l q = some (x, l') ∧ passN p x = some (y, p') ∧ m = p' :: l' := by
  rw [overN]
  constructor
  · intro h
    split at h
    · simp at h
    · rename_i x l' h1
      split at h
      · simp at h
      · rename_i y' p' h2
        simp only [Option.some.injEq, Prod.mk.injEq] at h
        exact ⟨x, p', l', h1, by rw [h2, h.1], h.2.symm⟩
  · rintro ⟨x, p', l', h1, h2, rfl⟩
    rw [h1]
    simp only
    rw [h2]
theorem overN_append {a d : List Named} {q y : Named} {m : List Named} : overN (a ++ d) q = some (y, m) ↔ ∃ x d' a', overN d q = some (x, d') ∧ overN a x = some (y, a') ∧ m = a' ++ d' := by
  induction a generalizing y m with
  | nil =>
    constructor
    · intro h; exact ⟨y, m, [], h, rfl, rfl⟩
    · rintro ⟨x, d', a', h1, h2, rfl⟩
      simp only [overN, Option.some.injEq, Prod.mk.injEq] at h2
      obtain ⟨rfl, rfl⟩ := h2
      exact h1
  | cons p a ih =>
    rw [List.cons_append, overN_cons]
    constructor
    · rintro ⟨x, p', l', h1, h2, rfl⟩
      obtain ⟨x', d', a', h3, h4, rfl⟩ := ih.1 h1
      exact ⟨x', d', p' :: a', h3, overN_cons.2 ⟨x, p', a', h4, h2, rfl⟩, rfl⟩
    · rintro ⟨x, d', a', h1, h2, rfl⟩
      obtain ⟨x', p', a'', h3, h4, rfl⟩ := overN_cons.1 h2
      exact ⟨x', p', a'' ++ d', ih.2 ⟨x, d', a'', h1, h3, rfl⟩, h4, rfl⟩
theorem overN_fail {m : List Named} {q x : Named} {l' : List Named} {j : Nat} (hj : j < m.length) (h : overN (m.drop (j + 1)) q = some (x, l')) (hp : passN m[j] x = none) : overN m q = none := by
  cases hm : overN m q with
  | none => rfl
  | some r =>
    exfalso
    rw [← List.take_append_drop j m] at hm
    obtain ⟨y, d', a', h1, h2, h3⟩ := overN_append.1 (show _ = some (r.1, r.2) from hm)
    rw [List.drop_eq_getElem_cons hj] at h1
    obtain ⟨z, p', l'', g1, g2, g3⟩ := overN_cons.1 h1
    rw [h] at g1
    simp only [Option.some.injEq, Prod.mk.injEq] at g1
    obtain ⟨rfl, rfl⟩ := g1
    rw [hp] at g2
    simp at g2
theorem overN_step {m : List Named} {q x : Named} {l' : List Named} {j : Nat} (hj : j < m.length) (h : overN (m.drop (j + 1)) q = some (x, l')) {y p' : Named} (hp : passN m[j] x = some (y, p')) : overN (m.drop j) q = some (y, p' :: l') := by
  rw [List.drop_eq_getElem_cons hj]
  exact overN_cons.2 ⟨x, p', l', h, hp, rfl⟩
theorem overN_len {l : List Named} {q y : Named} {m : List Named} (h : overN l q = some (y, m)) : m.length = l.length := by
  induction l generalizing y m with
  | nil => simp [overN] at h; rw [← h.2]
  | cons p l ih =>
    obtain ⟨x, p', l', h1, h2, rfl⟩ := overN_cons.1 h
    simp [ih h1]
theorem overN_keep {K : Named → Prop} (hK : ∀ p q x y, K p → K q → passN p q = some (x, y) → K x ∧ K y) {l : List Named} {q y : Named} {m : List Named} (h : overN l q = some (y, m)) (hl : ∀ p ∈ l, K p) (hq : K q) : K y ∧ ∀ p ∈ m, K p := by
  induction l generalizing y m with
  | nil =>
    simp only [overN, Option.some.injEq, Prod.mk.injEq] at h
    obtain ⟨rfl, rfl⟩ := h
    exact ⟨hq, by simp⟩
  | cons p l ih =>
    obtain ⟨x, p', l', h1, h2, rfl⟩ := overN_cons.1 h
    obtain ⟨k1, k2⟩ := ih h1 (fun z hz => hl z (by simp [hz]))
    obtain ⟨k3, k4⟩ := hK _ _ _ _ (hl p (by simp)) k1 h2
    exact ⟨k3, by simpa using ⟨k4, k2⟩⟩
/-- Id, Deps and Text stay; so does the number of changes. -/
def likeN (p q : Named) : Prop := p.id = q.id ∧ p.deps = q.deps ∧ p.text = q.text ∧ p.l.length = q.l.length
theorem likeN.refl (p : Named) : likeN p p := ⟨rfl, rfl, rfl, rfl⟩
theorem likeN.trans {p q r : Named} (h : likeN p q) (k : likeN q r) : likeN p r := ⟨h.1.trans k.1, h.2.1.trans k.2.1, h.2.2.1.trans k.2.2.1, h.2.2.2.trans k.2.2.2⟩
theorem passN_like {p q x y : Named} (h : passN p q = some (x, y)) : likeN x q ∧ likeN y p := by
  obtain ⟨a, b, c, d, e, f, g, k⟩ := passN_same h
  exact ⟨⟨a, b, c, d⟩, ⟨e, f, g, k⟩⟩
theorem overN_like {l : List Named} {q y : Named} {m : List Named} (h : overN l q = some (y, m)) : likeN y q ∧ ∀ (i : Nat) (hi : i < m.length) (hi' : i < l.length), likeN m[i] l[i] := by
  induction l generalizing y m with
  | nil =>
    simp only [overN, Option.some.injEq, Prod.mk.injEq] at h
    obtain ⟨rfl, rfl⟩ := h
    exact ⟨.refl _, fun i hi => by simp at hi⟩
  | cons p l ih =>
    obtain ⟨x, p', l', h1, h2, rfl⟩ := overN_cons.1 h
    obtain ⟨k1, k2⟩ := ih h1
    obtain ⟨j1, j2⟩ := passN_like h2
    refine ⟨j1.trans k1, fun i hi hi' => ?_⟩
    cases i with
    | zero => exact j2
    | succ i => exact k2 i (by simpa using hi) (by simpa using hi')
theorem passN_run {t : List File} {p q x y : Named} (hs : Srt t) (h : (runL t (p.l ++ q.l)).2 = 0) (hp : passN p q = some (x, y)) : runL t (x.l ++ y.l) = runL t (p.l ++ q.l) := by
  obtain ⟨_, f, m, h2, rfl, rfl⟩ := passN_iff.1 hp
  exact passL_same hs h h2
theorem overN_run {t : List File} {l : List Named} {q y : Named} {m : List Named} (hs : Srt t) (h : (runL t (allN l ++ q.l)).2 = 0) (hp : overN l q = some (y, m)) : runL t (y.l ++ allN m) = runL t (allN l ++ q.l) := by
  induction l generalizing t y m with
  | nil =>
    simp only [overN, Option.some.injEq, Prod.mk.injEq] at hp
    obtain ⟨rfl, rfl⟩ := hp
    simp [allN]
  | cons p l ih =>
    obtain ⟨x, p', l', g1, g2, rfl⟩ := overN_cons.1 hp
    have e0 : allN (p :: l) = p.l ++ allN l := by simp [allN]
    have e0' : allN (p' :: l') = p'.l ++ allN l' := by simp [allN]
    rw [e0, List.append_assoc] at h ⊢
    obtain ⟨h1, h2⟩ := runL_ok.1 h
    have e := ih (runL_srt hs h1) h2 g1
    rw [runL_app h1, ← e]
    rw [← e] at h2
    have h3 : (runL t ((p.l ++ x.l) ++ allN l')).2 = 0 := by rw [List.append_assoc]; exact runL_ok.2 ⟨h1, h2⟩
    obtain ⟨h4, h5⟩ := runL_ok.1 h3
    have e2 := passN_run hs h4 g2
    rw [e0', ← List.append_assoc, runL_append, e2, if_pos h4, ← runL_app h4, List.append_assoc, runL_app h1]
end Go.Qm

/- Lists, turned about in place: plain laws. -/
namespace Go.Qm
open Go.RowKit Go.Vam
set_option linter.unusedSimpArgs false
set_option linter.unusedVariables false

/-- A list whose first and last i things have changed their places. -/
def revI {α : Type} (l : List α) (i : Nat) : List α := l.mapIdx fun k x => if k < i ∨ l.length ≤ k + i then (l[l.length - 1 - k]?).getD x else x
theorem revI_len {α : Type} (l : List α) (i : Nat) : (revI l i).length = l.length := by simp [revI]
theorem revI_get {α : Type} {l : List α} {i k : Nat} (h : k < l.length) : (revI l i)[k]'(by rw [revI_len]; exact h) = if k < i ∨ l.length ≤ k + i then l[l.length - 1 - k]'(by omega) else l[k] := by
  simp only [revI, List.getElem_mapIdx]
  split
  · rw [List.getElem?_eq_getElem (by omega)]; rfl
  · rfl
theorem revI_zero {α : Type} (l : List α) : revI l 0 = l := by
  refine List.ext_getElem (revI_len _ _) fun k h1 h2 => ?_
  rw [revI_get h2, if_neg (by omega)]
theorem revI_end {α : Type} {l : List α} {i : Nat} (h : l.length ≤ 2 * i + 1) : revI l i = l.reverse := by
  refine List.ext_getElem (by rw [revI_len]; simp) fun k h1 h2 => ?_
  rw [revI_len] at h1
  rw [revI_get h1, List.getElem_reverse]
  split
  · rfl
  · have : k = l.length - 1 - k := by omega
    congr 1
theorem revI_step {α : Type} {l : List α} {i : Nat} (h : 2 * i + 1 < l.length) : ((revI l i).set i (l[l.length - 1 - i]'(by omega))).set (l.length - 1 - i) (l[i]'(by omega)) = revI l (i + 1) := by
  refine List.ext_getElem (by simp [revI_len]) fun k h1 h2 => ?_
  simp only [List.length_set, revI_len] at h1
  rw [revI_get h1, List.getElem_set]
  split
  · rename_i h3
    subst h3
    rw [if_pos (by omega)]
    congr 1
    omega
  · rename_i h3
    rw [List.getElem_set]
    split
    · rename_i h4
      subst h4
      rw [if_pos (by omega)]
    · rename_i h4
      rw [revI_get h1]
      by_cases h5 : k < i ∨ l.length ≤ k + i
      · rw [if_pos h5, if_pos (by omega)]
      · rw [if_neg h5, if_neg (by omega)]
theorem revI_at {α : Type} {l : List α} {i k : Nat} (h : k < l.length) (h1 : i ≤ k) (h2 : k + i < l.length) : (revI l i)[k]'(by rw [revI_len]; exact h) = l[k] := by
  rw [revI_get h, if_neg (by omega)]
end Go.Qm

/- What a third one has passed: plain laws. -/
namespace Go.Qm
open Go.RowKit Go.Vam
set_option linter.unusedSimpArgs false
set_option linter.unusedVariables false

theorem passesH_ok {p q x y : Hunk} (h : PassesH p q x y) : hunkOk p = true ∧ hunkOk q = true := by
  cases h with
  | behind hp hq h hm hx hy => exact ⟨hp, hq⟩
  | ahead hp hq h hm hx hy => exact ⟨hp, hq⟩
theorem permH {q p p1 q1 a x a1 z w : Hunk} (h1 : PassesH q p p1 q1) (h2 : PassesH a p1 x a1) (h3 : PassesH a1 q1 z w) (ha : a.at_ ≤ 1048376) (hq : q.at_ ≤ 1048376) : ∃ u v, PassesH a q u v := by
  have o1 := (passesH_ok h2).1
  have o2 := (passesH_ok h1).1
  obtain ⟨b1, b2, b3, b4, b5⟩ := passesH_at h1
  obtain ⟨c1, c2, c3, c4, c5⟩ := passesH_at h2
  obtain ⟨d1, d2, d3, d4, d5⟩ := passesH_at h3
  have l1 := hunkOk_len o1
  have l2 := hunkOk_len o2
  simp only [b1, b2, b3, b4, c1, c2, c3, c4, d1, d2, d3, d4] at b5 c5 d5
  have : q.at_ > a.at_ + a.new.length ∨ a.at_ > q.at_ + q.old.length := by
    rcases b5 with ⟨b5, b6, b7⟩ | ⟨b5, b6, b7⟩ <;> rcases c5 with ⟨c5, c6, c7⟩ | ⟨c5, c6, c7⟩ <;> rcases d5 with ⟨d5, d6, d7⟩ | ⟨d5, d6, d7⟩ <;> omega
  rcases this with h | h
  · exact ⟨_, _, .behind o1 o2 h (by unfold byH; omega) rfl rfl⟩
  · exact ⟨_, _, .ahead o1 o2 h (by unfold byH; omega) rfl rfl⟩
def Can (p q : Prim) : Prop :=
  (p.name ≠ q.name ∧ (p.kind = 2 → p.to ≠ q.name) ∧ (q.kind = 2 → p.name ≠ q.to) ∧ (p.kind = 2 → q.kind = 2 → p.to ≠ q.to)) ∨
  (p.name = q.name ∧ p.kind = 3 ∧ q.kind = 3 ∧ ∃ u v, PassesH p.h q.h u v) ∨
  (p.kind = 2 ∧ (q.kind = 3 ∨ q.kind = 4) ∧ q.name = p.to) ∨ (q.kind = 2 ∧ (p.kind = 3 ∨ p.kind = 4) ∧ p.name = q.name)
theorem Can.passes {p q : Prim} (h : Can p q) : ∃ u v, PassesP p q u v := by
  rcases h with h | ⟨h1, h2, h3, u, v, h4⟩ | ⟨h1, h2, h3⟩ | ⟨h1, h2, h3⟩
  · exact ⟨_, _, .apart (apart_all.2 h) rfl rfl⟩
  · exact ⟨_, _, .patch u v h1 h2 h3 h4 rfl rfl⟩
  · exact ⟨_, _, .after h1 h2 h3 rfl rfl⟩
  · exact ⟨_, _, .before h1 h2 h3 rfl rfl⟩
theorem permP {q p p1 q1 a x a1 z w : Prim} (h1 : PassesP q p p1 q1) (h2 : PassesP a p1 x a1) (h3 : PassesP a1 q1 z w) (ha : a.h.at_ ≤ 1048376) (hq : q.h.at_ ≤ 1048376) : Can a q := by
  obtain ⟨ak, at', ak', at'', b⟩ := passes_facts h1
  obtain ⟨bk, bt, bk', bt', c⟩ := passes_facts h2
  obtain ⟨ck, ct, ck', ct', d⟩ := passes_facts h3
  by_cases e : a.name = q.name ∧ a.kind = 3 ∧ q.kind = 3
  · refine .inr (.inl ⟨e.1, e.2.1, e.2.2, ?_⟩)
    obtain ⟨e1, e2, e3⟩ := e
    have D : PassesH a1.h q1.h z.h w.h := by grind (splits := 60)
    by_cases k : p.kind = 3 ∧ q.name = p.name
    · have B : PassesH q.h p.h p1.h q1.h := by grind (splits := 60)
      have C : PassesH a.h p1.h x.h a1.h := by grind (splits := 60)
      exact permH B C D ha hq
    · have B : q1.h = q.h := by grind (splits := 60)
      have C : a1.h = a.h := by grind (splits := 60)
      rw [B, C] at D
      exact ⟨_, _, D⟩
  · unfold Can
    grind (splits := 100)
theorem turnP_at (p : Prim) : (turnP p).h.at_ = p.h.at_ := by
  unfold turnP
  repeat' split
  all_goals first | rfl | simp [turnH]
theorem can_pass {p q : Prim} (h1 : mayP p = true) (h2 : mayP q = true) (h : Can p q) : ∃ u v, passP p q = some (u, v) := by
  obtain ⟨u, v, k⟩ := h.passes
  exact ⟨u, v, passP_iff.2 ⟨h1, h2, k⟩⟩
/-- Three in a row, turned about: the one way is the other. -/
theorem ybeP {p q r r3 q3 r4 p3 q4 p4 : Prim} (d : passP q r = some (r3, q3)) (e : passP p r3 = some (r4, p3)) (f : passP p3 q3 = some (q4, p4)) (hp : p.h.at_ ≤ 1047776) (hq : q.h.at_ ≤ 1047776) (hr : r.h.at_ ≤ 1047776) :
    ∃ q1 p1 r1, passP p q = some (q1, p1) ∧ passP p1 r = some (r1, p4) ∧ passP q1 r1 = some (r4, q4) := by
  have fd := passP_iff.1 d
  have fe := passP_iff.1 e
  have ff := passP_iff.1 f
  obtain ⟨q1, p1, a⟩ := can_pass fe.1 fd.1 (permP fd.2.2 fe.2.2 ff.2.2 (by omega) (by omega))
  have fa := passP_iff.1 a
  have a' := pass_back a (by omega) (by omega)
  obtain ⟨a1, a2⟩ := pass_at a hp hq
  have g1 := passP_iff.1 (pass_turn a')
  have g2 := passP_iff.1 (pass_turn d)
  have g3 := passP_iff.1 (pass_turn e)
  obtain ⟨u, v, b⟩ := can_pass g2.1 g1.1 (permP g1.2.2 g2.2.2 g3.2.2 (by rw [turnP_at]; omega) (by rw [turnP_at]; omega))
  have b := pass_turn b
  rw [turnP_turnP, turnP_turnP] at b
  have fb := passP_iff.1 b
  have b' := passP_iff.1 (pass_back b (by omega) (by omega))
  obtain ⟨b1, b2⟩ := pass_at b a2 hr
  have fa' := passP_iff.1 a'
  obtain ⟨r2, q2, c⟩ := can_pass fa'.1 b'.1 (permP b'.2.2 fa'.2.2 fd.2.2 (by omega) (by omega))
  obtain ⟨k1, k2, k3⟩ := pass_three a b c d e f
  exact ⟨q1, p1, _, a, by rw [b, k3], by rw [c, k1, k2]⟩
theorem passL_at {a b f m : List Prim} {u v : Int} (h : passL a b = some (f, m)) (h1 : atMost u a) (h2 : atMost v b) : atMost (v + 200 * a.length) f ∧ atMost (u + 200 * b.length) m := by
  have key : ∀ (a : List Prim) (q y : Prim) (m : List Prim) (u v : Int), passOne a q = some (y, m) → atMost u a → q.h.at_ ≤ v → y.h.at_ ≤ v + 200 * a.length ∧ atMost (u + 200) m := by
    intro a
    induction a with
    | nil =>
      intro q y m u v h h1 h2
      simp only [passOne, Option.some.injEq, Prod.mk.injEq] at h
      obtain ⟨rfl, rfl⟩ := h
      exact ⟨by simp; omega, by intro p hp; simp at hp⟩
    | cons p a ih =>
      intro q y m u v h h1 h2
      obtain ⟨x, p', l', g1, g2, rfl⟩ := passOne_cons.1 h
      obtain ⟨i1, i2⟩ := ih q x l' u v g1 (fun z hz => h1 z (by simp [hz])) h2
      obtain ⟨j1, j2⟩ := pass_at g2 (h1 p (by simp)) i1
      refine ⟨by simp only [List.length_cons]; omega, fun z hz => ?_⟩
      rcases List.mem_cons.1 hz with rfl | hz
      · exact j2
      · exact i2 z hz
  induction b generalizing a f u with
  | nil =>
    simp only [passL, Option.some.injEq, Prod.mk.injEq] at h
    obtain ⟨rfl, rfl⟩ := h
    exact ⟨by intro p hp; simp at hp, fun p hp => by have := h1 p hp; simp; omega⟩
  | cons q b ih =>
    obtain ⟨x, a', f', g1, g2, rfl⟩ := passL_cons.1 h
    obtain ⟨i1, i2⟩ := key a q x a' u v g1 h1 (h2 q (by simp))
    obtain ⟨j1, j2⟩ := ih g2 i2 (fun z hz => h2 z (by simp [hz]))
    have hl := passOne_len g1
    refine ⟨fun z hz => ?_, fun z hz => ?_⟩
    · rcases List.mem_cons.1 hz with rfl | hz
      · omega
      · have := j1 z hz; omega
    · have := j2 z hz; simp only [List.length_cons]; omega
theorem atMost_append {u : Int} {a b : List Prim} : atMost u (a ++ b) ↔ atMost u a ∧ atMost u b := by
  unfold atMost
  constructor
  · intro h; exact ⟨fun p hp => h p (by simp [hp]), fun p hp => h p (by simp [hp])⟩
  · rintro ⟨h1, h2⟩ p hp
    rcases List.mem_append.1 hp with h | h
    · exact h1 p h
    · exact h2 p h
theorem atMost.mono {u v : Int} {a : List Prim} (h : atMost u a) (hv : u ≤ v) : atMost v a := fun p hp => Int.le_trans (h p hp) hv
theorem passL_nl (b : List Prim) {f m : List Prim} : passL [] b = some (f, m) ↔ f = b ∧ m = [] := by
  rw [passL_nil]
  simp only [Option.some.injEq, Prod.mk.injEq]
  constructor <;> rintro ⟨rfl, rfl⟩ <;> exact ⟨rfl, rfl⟩
theorem passL_nr (a : List Prim) {f m : List Prim} : passL a [] = some (f, m) ↔ f = [] ∧ m = a := by
  simp only [passL, Option.some.injEq, Prod.mk.injEq]
  constructor <;> rintro ⟨rfl, rfl⟩ <;> exact ⟨rfl, rfl⟩
theorem ybeL : ∀ (n : Nat) (p q r r3 q3 r4 p3 q4 p4 : List Prim) (u : Int), p.length + q.length + r.length ≤ n → passL q r = some (r3, q3) → passL p r3 = some (r4, p3) → passL p3 q3 = some (q4, p4) → atMost u p → atMost u q → atMost u r → u + 200 * ((p.length + q.length + r.length : Nat) : Int) ≤ 1048376 →
    ∃ q1 p1 r1, passL p q = some (q1, p1) ∧ passL p1 r = some (r1, p4) ∧ passL q1 r1 = some (r4, q4) := by
  intro n
  induction n with
  | zero =>
    intro p q r r3 q3 r4 p3 q4 p4 u hn d e f hp hq hr hu
    have : p = [] := by cases p; rfl; simp at hn
    have : q = [] := by cases q; rfl; simp at hn
    have : r = [] := by cases r; rfl; simp at hn
    subst p q r
    obtain ⟨rfl, rfl⟩ := (passL_nl _).1 d
    obtain ⟨rfl, rfl⟩ := (passL_nl _).1 e
    obtain ⟨rfl, rfl⟩ := (passL_nl _).1 f
    exact ⟨[], [], [], d, d, d⟩
  | succ n ih =>
    intro p q r r3 q3 r4 p3 q4 p4 u hn d e f hp hq hr hu
    match p, q, r with
    | [], q, r =>
      obtain ⟨rfl, rfl⟩ := (passL_nl _).1 e
      obtain ⟨rfl, rfl⟩ := (passL_nl _).1 f
      exact ⟨q, [], r, passL_nil q, passL_nil r, d⟩
    | p, [], r =>
      obtain ⟨rfl, rfl⟩ := (passL_nl _).1 d
      obtain ⟨rfl, rfl⟩ := (passL_nr _).1 f
      exact ⟨[], p, r4, rfl, e, passL_nil r4⟩
    | p, q, [] =>
      obtain ⟨rfl, rfl⟩ := (passL_nr _).1 d
      obtain ⟨rfl, rfl⟩ := (passL_nr _).1 e
      exact ⟨q4, p4, [], f, rfl, rfl⟩
    | p0 :: p5 :: ps, q, r =>
      rw [show p0 :: p5 :: ps = [p0] ++ (p5 :: ps) from rfl] at e hp ⊢
      generalize hps : p5 :: ps = qs at e hp hn hu
      have hl : 1 ≤ qs.length := by rw [← hps]; simp
      simp only [List.length_cons] at hn hu
      obtain ⟨hp0, hps'⟩ := atMost_append.1 hp
      obtain ⟨r3', ps3, p03, e1, e2, rfl⟩ := passL_left.1 e
      obtain ⟨q3', ps4, p04, f1, f2, rfl⟩ := passL_left.1 f
      obtain ⟨q1, ps1, r1, i1, i2, i3⟩ := ih qs q r r3 q3 r3' ps3 q3' ps4 u (by omega) d e1 f1 hps' hq hr (by omega)
      have k1 := (passL_at i1 hps' hq).1
      have k2 := (passL_at i2 (passL_at i1 hps' hq).2 hr).1
      have m1 := passL_len i1
      have m2 := passL_len i2
      obtain ⟨q1', p01, r1', j1, j2, j3⟩ := ih [p0] q1 r1 r3' q3' r4 p03 q4 p04 (u + 200 * qs.length) (by simp; omega) i3 e2 f2 (hp0.mono (by omega)) k1 (k2.mono (by omega)) (by simp; omega)
      exact ⟨q1', p01 ++ ps1, r1', passL_left.2 ⟨q1, ps1, p01, i1, j1, rfl⟩, passL_left.2 ⟨r1, ps4, p04, i2, j2, rfl⟩, j3⟩
    | p, q, r0 :: r5 :: rs =>
      rw [show r0 :: r5 :: rs = [r0] ++ (r5 :: rs) from rfl] at d hr ⊢
      generalize hrs : r5 :: rs = qs at d hr hn hu
      have hl : 1 ≤ qs.length := by rw [← hrs]; simp
      simp only [List.length_cons] at hn hu
      obtain ⟨hr0, hrs'⟩ := atMost_append.1 hr
      obtain ⟨r03, rs3, q', d1, d2, rfl⟩ := passL_right.1 d
      obtain ⟨r04, rs4, p', e1, e2, rfl⟩ := passL_right.1 e
      have k1 := (passL_at d1 hq hr0).2
      have k2 := (passL_at e1 hp (passL_at d1 hq hr0).1).2
      have m1 := passL_len d1
      have m2 := passL_len e1
      simp only [List.length_singleton] at k1 k2 m1 m2
      obtain ⟨q1', p1', rs1, i1, i2, i3⟩ := ih p' q' qs rs3 q3 rs4 p3 q4 p4 (u + 200) (by omega) d2 e2 f (k2.mono (by omega)) (k1.mono (by omega)) (hrs'.mono (by omega)) (by omega)
      obtain ⟨q1, p1, r01, j1, j2, j3⟩ := ih p q [r0] r03 q' r04 p' q1' p1' u (by simp; omega) d1 e1 i1 hp hq hr0 (by simp; omega)
      exact ⟨q1, p1, r01 ++ rs1, j1, passL_right.2 ⟨r01, rs1, p1', j2, i2, rfl⟩, passL_right.2 ⟨r04, rs4, q1', j3, i3, rfl⟩⟩
    | p, q0 :: q5 :: qs', r =>
      rw [show q0 :: q5 :: qs' = [q0] ++ (q5 :: qs') from rfl] at d hq ⊢
      generalize hrs : q5 :: qs' = qs at d hq hn hu
      have hl : 1 ≤ qs.length := by rw [← hrs]; simp
      simp only [List.length_cons] at hn hu
      obtain ⟨hq0, hqs⟩ := atMost_append.1 hq
      obtain ⟨r', qs3, q03, d1, d2, rfl⟩ := passL_left.1 d
      obtain ⟨q04, qs4, p3', f1, f2, rfl⟩ := passL_right.1 f
      have k1 := (passL_at d1 hqs hr).1
      have m1 := passL_len d1
      obtain ⟨q01, p1, r1', i1, i2, i3⟩ := ih p [q0] r' r3 q03 r4 p3 q04 p3' (u + 200 * qs.length) (by simp; omega) d2 e f1 (hp.mono (by omega)) (hq0.mono (by omega)) k1 (by simp; omega)
      have k2 := (passL_at i1 hp hq0).2
      have m2 := passL_len i1
      simp only [List.length_singleton] at k2 m2
      obtain ⟨qs1, p1', r1, j1, j2, j3⟩ := ih p1 qs r r' qs3 r1' p3' qs4 p4 (u + 200) (by omega) d1 i2 f2 (k2.mono (by omega)) (hqs.mono (by omega)) (hr.mono (by omega)) (by omega)
      exact ⟨q01 ++ qs1, p1', r1, passL_right.2 ⟨q01, qs1, p1, i1, j1, rfl⟩, j2, passL_left.2 ⟨r1', qs4, q04, j3, i3, rfl⟩⟩
    | [p0], [q0], [r0] =>
      rw [passL_one] at d
      cases hd : passP q0 r0 with
      | none => rw [hd] at d; simp at d
      | some x =>
        rw [hd] at d
        simp only [Option.map_some, Option.some.injEq, Prod.mk.injEq] at d
        obtain ⟨rfl, rfl⟩ := d
        rw [passL_one] at e
        cases he : passP p0 x.1 with
        | none => rw [he] at e; simp at e
        | some y =>
          rw [he] at e
          simp only [Option.map_some, Option.some.injEq, Prod.mk.injEq] at e
          obtain ⟨rfl, rfl⟩ := e
          rw [passL_one] at f
          cases hf : passP y.2 x.2 with
          | none => rw [hf] at f; simp at f
          | some z =>
            rw [hf] at f
            simp only [Option.map_some, Option.some.injEq, Prod.mk.injEq] at f
            obtain ⟨rfl, rfl⟩ := f
            have b1 := hp p0 (by simp)
            have b2 := hq q0 (by simp)
            have b3 := hr r0 (by simp)
            simp only [List.length_singleton] at hu
            obtain ⟨q1, p1, r1, g1, g2, g3⟩ := ybeP hd he hf (by omega) (by omega) (by omega)
            exact ⟨[q1], [p1], [r1], by rw [passL_one, g1]; rfl, by rw [passL_one, g2]; rfl, by rw [passL_one, g3]; rfl⟩
end Go.Qm

/- What a third one has passed, of named patches: plain laws. -/
namespace Go.Qm
open Go.RowKit Go.Vam
set_option linter.unusedSimpArgs false
set_option linter.unusedVariables false

theorem turnL_turnL (l : List Prim) : turnL (turnL l) = l := by
  unfold turnL
  rw [← List.map_reverse, List.reverse_reverse, List.map_map]
  conv => rhs; rw [← List.map_id l]
  exact List.map_congr_left fun p _ => turnP_turnP p
theorem turnL_append (a b : List Prim) : turnL (a ++ b) = turnL b ++ turnL a := by simp [turnL]
theorem turnL_len (a : List Prim) : (turnL a).length = a.length := by simp [turnL]
theorem turnL_at {u : Int} {l : List Prim} (h : atMost u l) : atMost u (turnL l) := fun p hp => by
  obtain ⟨q, hq, rfl⟩ := List.mem_map.1 hp
  rw [turnP_at]
  exact h q (by simpa using hq)
theorem passL_turn : ∀ (n : Nat) (a b f m : List Prim), a.length + b.length ≤ n → passL a b = some (f, m) → passL (turnL b) (turnL a) = some (turnL m, turnL f) := by
  intro n
  induction n with
  | zero =>
    intro a b f m hn h
    have : a = [] := by cases a; rfl; simp at hn
    have : b = [] := by cases b; rfl; simp at hn
    subst a b
    obtain ⟨rfl, rfl⟩ := (passL_nl _).1 h
    exact h
  | succ n ih =>
    intro a b f m hn h
    match a, b with
    | [], b =>
      obtain ⟨rfl, rfl⟩ := (passL_nl _).1 h
      exact (passL_nr _).2 ⟨rfl, rfl⟩
    | a, [] =>
      obtain ⟨rfl, rfl⟩ := (passL_nr _).1 h
      exact (passL_nl _).2 ⟨rfl, rfl⟩
    | [p], [q] =>
      rw [passL_one] at h
      cases hd : passP p q with
      | none => rw [hd] at h; simp at h
      | some x =>
        rw [hd] at h
        simp only [Option.map_some, Option.some.injEq, Prod.mk.injEq] at h
        obtain ⟨rfl, rfl⟩ := h
        have := pass_turn hd
        show passL [turnP q] [turnP p] = _
        rw [passL_one, this]
        rfl
    | p0 :: p5 :: ps, b =>
      rw [show p0 :: p5 :: ps = [p0] ++ (p5 :: ps) from rfl] at h ⊢
      generalize hps : p5 :: ps = qs at h hn
      have hl : 1 ≤ qs.length := by rw [← hps]; simp
      simp only [List.length_cons] at hn
      obtain ⟨b', d', a', h1, h2, rfl⟩ := passL_left.1 h
      have l1 := passL_len h1
      have g1 := ih qs b b' d' (by omega) h1
      have g2 := ih [p0] b' f a' (by simp; omega) h2
      rw [turnL_append, turnL_append]
      exact passL_right.2 ⟨_, _, _, g1, g2, rfl⟩
    | a, q0 :: q5 :: qs' =>
      rw [show q0 :: q5 :: qs' = [q0] ++ (q5 :: qs') from rfl] at h ⊢
      generalize hps : q5 :: qs' = qs at h hn
      have hl : 1 ≤ qs.length := by rw [← hps]; simp
      simp only [List.length_cons] at hn
      obtain ⟨b', c', a', h1, h2, rfl⟩ := passL_right.1 h
      have l1 := passL_len h1
      have g1 := ih a [q0] b' a' (by simp; omega) h1
      have g2 := ih a' qs c' m (by omega) h2
      rw [turnL_append, turnL_append]
      exact passL_left.2 ⟨_, _, _, g1, g2, rfl⟩
theorem passL_turn' {a b f m : List Prim} (h : passL a b = some (f, m)) : passL (turnL b) (turnL a) = some (turnL m, turnL f) := passL_turn _ a b f m (Nat.le_refl _) h
/-- The same, the other way round. -/
theorem ybeML {p q r q1 p1 r1 p2 r2 q2 : List Prim} {u : Int} (a : passL p q = some (q1, p1)) (b : passL p1 r = some (r1, p2)) (c : passL q1 r1 = some (r2, q2)) (hp : atMost u p) (hq : atMost u q) (hr : atMost u r) (hu : u + 200 * ((p.length + q.length + r.length : Nat) : Int) ≤ 1048376) :
    ∃ r3 q3 p3, passL q r = some (r3, q3) ∧ passL p r3 = some (r2, p3) ∧ passL p3 q3 = some (q2, p2) := by
  obtain ⟨Q1, P1, R1, k1, k2, k3⟩ := ybeL _ (turnL r) (turnL q) (turnL p) _ _ _ _ _ _ u (Nat.le_refl _) (passL_turn' a) (passL_turn' b) (passL_turn' c) (turnL_at hr) (turnL_at hq) (turnL_at hp) (by rw [turnL_len, turnL_len, turnL_len]; omega)
  have j1 := passL_turn' k1
  have j2 := passL_turn' k2
  have j3 := passL_turn' k3
  rw [turnL_turnL, turnL_turnL] at j1 j3
  rw [turnL_turnL, turnL_turnL] at j2
  exact ⟨_, _, _, j1, j2, j3⟩
/-! ### Named patches -/
def dep (q p : Named) : Bool := q.deps.any fun i => idEq i p.id
theorem passN_def {p q x y : Named} : passN p q = some (x, y) ↔ dep q p = false ∧ ∃ f m, passL p.l q.l = some (f, m) ∧ x = withL q f ∧ y = withL p m := passN_iff
theorem dep_like {q p q' p' : Named} (h1 : likeN q q') (h2 : likeN p p') : dep q p = dep q' p' := by unfold dep; rw [h1.2.1, h2.1]
theorem ybeN {p q r r3 q3 r4 p3 q4 p4 : Named} {u : Int} (d : passN q r = some (r3, q3)) (e : passN p r3 = some (r4, p3)) (f : passN p3 q3 = some (q4, p4)) (hp : atMost u p.l) (hq : atMost u q.l) (hr : atMost u r.l) (hu : u + 200 * ((p.l.length + q.l.length + r.l.length : Nat) : Int) ≤ 1048376) :
    ∃ q1 p1 r1, passN p q = some (q1, p1) ∧ passN p1 r = some (r1, p4) ∧ passN q1 r1 = some (r4, q4) := by
  obtain ⟨d1, a1, a2, d2, rfl, rfl⟩ := passN_def.1 d
  obtain ⟨e1, b1, b2, e2, rfl, rfl⟩ := passN_def.1 e
  obtain ⟨f1, c1, c2, f2, rfl, rfl⟩ := passN_def.1 f
  obtain ⟨Q1, P1, R1, k1, k2, k3⟩ := ybeL _ p.l q.l r.l _ _ _ _ _ _ u (Nat.le_refl _) d2 e2 f2 hp hq hr hu
  exact ⟨withL q Q1, withL p P1, withL r R1, passN_def.2 ⟨f1, Q1, P1, k1, rfl, rfl⟩, passN_def.2 ⟨e1, R1, _, k2, rfl, rfl⟩, passN_def.2 ⟨d1, _, _, k3, rfl, rfl⟩⟩
theorem ybeMN {p q r q1 p1 r1 p2 r2 q2 : Named} {u : Int} (a : passN p q = some (q1, p1)) (b : passN p1 r = some (r1, p2)) (c : passN q1 r1 = some (r2, q2)) (hp : atMost u p.l) (hq : atMost u q.l) (hr : atMost u r.l) (hu : u + 200 * ((p.l.length + q.l.length + r.l.length : Nat) : Int) ≤ 1048376) :
    ∃ r3 q3 p3, passN q r = some (r3, q3) ∧ passN p r3 = some (r2, p3) ∧ passN p3 q3 = some (q2, p2) := by
  obtain ⟨d1, a1, a2, d2, rfl, rfl⟩ := passN_def.1 a
  obtain ⟨e1, b1, b2, e2, rfl, rfl⟩ := passN_def.1 b
  obtain ⟨f1, c1, c2, f2, rfl, rfl⟩ := passN_def.1 c
  obtain ⟨Q1, P1, R1, k1, k2, k3⟩ := ybeML d2 e2 f2 hp hq hr hu
  exact ⟨withL r Q1, withL q P1, withL p R1, passN_def.2 ⟨f1, Q1, P1, k1, rfl, rfl⟩, passN_def.2 ⟨e1, _, R1, k2, rfl, rfl⟩, passN_def.2 ⟨d1, _, _, k3, rfl, rfl⟩⟩
end Go.Qm

/- What is put behind, and what is picked: plain laws. -/
namespace Go.Qm
open Go.RowKit Go.Vam
set_option linter.unusedSimpArgs false
set_option linter.unusedVariables false

theorem passN_at {p q x y : Named} {u v : Int} (h : passN p q = some (x, y)) (h1 : atMost u p.l) (h2 : atMost v q.l) : atMost (v + 200 * p.l.length) x.l ∧ atMost (u + 200 * q.l.length) y.l := by
  obtain ⟨d1, a1, a2, d2, rfl, rfl⟩ := passN_def.1 h
  exact passL_at d2 h1 h2
theorem allN_cons (p : Named) (l : List Named) : allN (p :: l) = p.l ++ allN l := by simp [allN]
theorem overN_at {l : List Named} {q y : Named} {m : List Named} {u v : Int} (h : overN l q = some (y, m)) (h1 : ∀ p ∈ l, atMost u p.l) (h2 : atMost v q.l) : atMost (v + 200 * (allN l).length) y.l ∧ ∀ p ∈ m, atMost (u + 200 * q.l.length) p.l := by
  induction l generalizing y m with
  | nil =>
    simp only [overN, Option.some.injEq, Prod.mk.injEq] at h
    obtain ⟨rfl, rfl⟩ := h
    exact ⟨h2.mono (by omega), by simp⟩
  | cons p l ih =>
    obtain ⟨x, p', l', g1, g2, rfl⟩ := overN_cons.1 h
    obtain ⟨i1, i2⟩ := ih g1 (fun z hz => h1 z (by simp [hz]))
    obtain ⟨j1, j2⟩ := passN_at g2 (h1 p (by simp)) i1
    have hx := (overN_like g1).1.2.2.2
    refine ⟨j1.mono (by rw [allN_cons, List.length_append]; omega), fun z hz => ?_⟩
    rcases List.mem_cons.1 hz with rfl | hz
    · exact j2.mono (by omega)
    · exact i2 z hz
theorem allN_like {l m : List Named} (hl : m.length = l.length) (h : ∀ (i : Nat) (hi : i < m.length) (hi' : i < l.length), likeN m[i] l[i]) : (allN m).length = (allN l).length := by
  induction l generalizing m with
  | nil => cases m with
    | nil => rfl
    | cons x m => simp at hl
  | cons p l ih =>
    cases m with
    | nil => simp at hl
    | cons x m =>
      rw [allN_cons, allN_cons, List.length_append, List.length_append, ih (by simpa using hl) fun i hi hi' => h (i + 1) (by simpa using hi) (by simpa using hi')]
      have := (h 0 (by simp) (by simp)).2.2.2
      simp only [List.getElem_cons_zero] at this
      rw [this]
theorem overN_alen {l : List Named} {q y : Named} {m : List Named} (h : overN l q = some (y, m)) : (allN m).length = (allN l).length := allN_like (overN_len h) (overN_like h).2
theorem ybeO {A : List Named} {q p p1 q1 x z : Named} {A1 w : List Named} {u : Int} (h1 : passN q p = some (p1, q1)) (h2 : overN A p1 = some (x, A1)) (h3 : overN A1 q1 = some (z, w)) (hA : ∀ a ∈ A, atMost u a.l) (hq : atMost u q.l) (hp : atMost u p.l) (hu : u + 200 * (((allN A).length + q.l.length + p.l.length : Nat) : Int) ≤ 1048376) :
    ∃ q2 A2 p2, overN A q = some (q2, A2) ∧ overN A2 p = some (p2, w) ∧ passN q2 p2 = some (x, z) := by
  induction A generalizing x z A1 w with
  | nil =>
    simp only [overN, Option.some.injEq, Prod.mk.injEq] at h2
    obtain ⟨rfl, rfl⟩ := h2
    simp only [overN, Option.some.injEq, Prod.mk.injEq] at h3
    obtain ⟨rfl, rfl⟩ := h3
    exact ⟨q, [], p, rfl, rfl, h1⟩
  | cons a A ih =>
    obtain ⟨x', a1, A1', g1, g2, rfl⟩ := overN_cons.1 h2
    obtain ⟨z', a2, w', k1, k2, rfl⟩ := overN_cons.1 h3
    rw [allN_cons, List.length_append] at hu
    obtain ⟨q2, A2, p2, i1, i2, i3⟩ := ih g1 k1 (fun y hy => hA y (by simp [hy])) (by omega)
    have b1 := (overN_at i1 (fun y hy => hA y (by simp [hy])) hq).1
    have b2 := (overN_at i2 (overN_at i1 (fun y hy => hA y (by simp [hy])) hq).2 hp).1
    have e1 := (overN_like i1).1.2.2.2
    have e2 := (overN_like i2).1.2.2.2
    have e3 := overN_alen i1
    rw [e3] at b2
    obtain ⟨q3, a3, p3, j1, j2, j3⟩ := ybeN (u := u + 200 * (allN A).length) i3 g2 k2 ((hA a (by simp)).mono (by omega)) b1 b2 (by rw [e1, e2]; omega)
    exact ⟨q3, a3 :: A2, p3, overN_cons.2 ⟨_, _, _, i1, j1, rfl⟩, overN_cons.2 ⟨_, _, _, i2, j2, rfl⟩, j3⟩
/-- One behind all of a list. -/
def pastN : Named → List Named → Option (List Named × Named)
  | p, [] => some ([], p)
  | p, x :: l => match passN p x with
    | none => none
    | some (y, p') => match pastN p' l with
      | none => none
      | some (m, p'') => some (y :: m, p'')
theorem pastN_cons {p x p2 : Named} {l m : List Named} : pastN p (x :: l) = some (m, p2) ↔ ∃ y p1 m', passN p x = some (y, p1) ∧ pastN p1 l = some (m', p2) ∧ m = y :: m' := by
  rw [pastN]
  constructor
  · intro h
    split at h
    · simp at h
    · rename_i y p1 h1
      split at h
      · simp at h
      · rename_i m' p2' h2
        simp only [Option.some.injEq, Prod.mk.injEq] at h
        exact ⟨y, p1, m', h1, by rw [h2, h.2], h.1.symm⟩
  · rintro ⟨y, p1, m', h1, h2, rfl⟩
    rw [h1]
    simp only
    rw [h2]
theorem pastN_append {p z : Named} {a b m : List Named} : pastN p (a ++ b) = some (m, z) ↔ ∃ a' y b', pastN p a = some (a', y) ∧ pastN y b = some (b', z) ∧ m = a' ++ b' := by
  induction a generalizing p m with
  | nil =>
    constructor
    · intro h; exact ⟨[], p, m, rfl, h, rfl⟩
    · rintro ⟨a', y, b', h1, h2, rfl⟩
      simp only [pastN, Option.some.injEq, Prod.mk.injEq] at h1
      obtain ⟨rfl, rfl⟩ := h1
      exact h2
  | cons x a ih =>
    rw [List.cons_append, pastN_cons]
    constructor
    · rintro ⟨y, p1, m', h1, h2, rfl⟩
      obtain ⟨a', y', b', h3, h4, rfl⟩ := ih.1 h2
      exact ⟨y :: a', y', b', pastN_cons.2 ⟨y, p1, a', h1, h3, rfl⟩, h4, rfl⟩
    · rintro ⟨a', y', b', h1, h2, rfl⟩
      obtain ⟨y, p1, a'', h3, h4, rfl⟩ := pastN_cons.1 h1
      exact ⟨y, p1, a'' ++ b', h3, ih.2 ⟨a'', y', b', h4, h2, rfl⟩, rfl⟩
theorem pastN_like {p z : Named} {l m : List Named} (h : pastN p l = some (m, z)) : likeN z p ∧ m.length = l.length ∧ ∀ (i : Nat) (hi : i < m.length) (hi' : i < l.length), likeN m[i] l[i] := by
  induction l generalizing p m with
  | nil =>
    simp only [pastN, Option.some.injEq, Prod.mk.injEq] at h
    obtain ⟨rfl, rfl⟩ := h
    exact ⟨.refl _, rfl, fun i hi => by simp at hi⟩
  | cons x l ih =>
    obtain ⟨y, p1, m', h1, h2, rfl⟩ := pastN_cons.1 h
    obtain ⟨i1, i2, i3⟩ := ih h2
    obtain ⟨j1, j2⟩ := passN_like h1
    refine ⟨i1.trans j2, by simp [i2], fun i hi hi' => ?_⟩
    cases i with
    | zero => exact j1
    | succ i => exact i3 i (by simpa using hi) (by simpa using hi')
theorem pastN_at {p z : Named} {l m : List Named} {u v : Int} (h : pastN p l = some (m, z)) (h1 : atMost u p.l) (h2 : ∀ x ∈ l, atMost v x.l) : atMost (u + 200 * (allN l).length) z.l ∧ ∀ x ∈ m, atMost (v + 200 * p.l.length) x.l := by
  induction l generalizing p m u with
  | nil =>
    simp only [pastN, Option.some.injEq, Prod.mk.injEq] at h
    obtain ⟨rfl, rfl⟩ := h
    exact ⟨h1.mono (by omega), by simp⟩
  | cons x l ih =>
    obtain ⟨y, p1, m', g1, g2, rfl⟩ := pastN_cons.1 h
    obtain ⟨j1, j2⟩ := passN_at g1 h1 (h2 x (by simp))
    obtain ⟨i1, i2⟩ := ih g2 j2 (fun z hz => h2 z (by simp [hz]))
    have hp := (passN_like g1).2.2.2.2
    refine ⟨i1.mono (by rw [allN_cons, List.length_append]; omega), fun z hz => ?_⟩
    rcases List.mem_cons.1 hz with rfl | hz
    · exact j1
    · exact (i2 z hz).mono (by omega)
theorem ybeQ {X : List Named} {p x y p1 z v : Named} {Y V : List Named} {u : Int} (h1 : passN p x = some (y, p1)) (h2 : pastN p1 X = some (Y, z)) (h3 : pastN y Y = some (V, v)) (hX : ∀ a ∈ X, atMost u a.l) (hp : atMost u p.l) (hx : atMost u x.l) (hu : u + 200 * (((allN X).length + p.l.length + x.l.length : Nat) : Int) ≤ 1048376) :
    ∃ r, pastN x X = some r := by
  induction X generalizing p x y p1 Y V u with
  | nil => exact ⟨_, rfl⟩
  | cons r X ih =>
    obtain ⟨r1, p2, Y', g1, g2, rfl⟩ := pastN_cons.1 h2
    obtain ⟨r2, q2, V', k1, k2, rfl⟩ := pastN_cons.1 h3
    rw [allN_cons, List.length_append] at hu
    obtain ⟨r3, q3, p3, j1, j2, j3⟩ := ybeMN (u := u) h1 g1 k1 hp hx (hX r (by simp)) (by omega)
    have b1 := (passN_at j1 hx (hX r (by simp))).2
    have b2 := (passN_at j2 hp (passN_at j1 hx (hX r (by simp))).1).2
    have e1 := (passN_like j1).2.2.2.2
    have e2 := (passN_like j2).2.2.2.2
    have e3 := (passN_like j1).1.2.2.2
    rw [e3] at b2
    obtain ⟨⟨a, b⟩, i1⟩ := ih (u := u + 200 * r.l.length) j3 g2 k2 (fun a ha => (hX a (by simp [ha])).mono (by omega)) b2 b1 (by rw [e1, e2]; omega)
    exact ⟨_, pastN_cons.2 ⟨_, _, _, j1, i1, rfl⟩⟩
/-! ### What stays and what is put behind -/
def inIds (ids : List Id) (p : Named) : Bool := ids.any fun y => idEq y p.id
theorem inIds_like {ids : List Id} {p q : Named} (h : likeN p q) : inIds ids p = inIds ids q := by unfold inIds; rw [h.1]
def partS (ids : List Id) (s : List Named × List Named) (p : Named) : List Named × List Named :=
  if inIds ids p = true then (s.1, s.2 ++ [p]) else match overN s.2 p with
    | some (x, m) => (s.1 ++ [x], m)
    | none => (s.1, s.2 ++ [p])
def partN (l : List Named) (ids : List Id) : List Named × List Named := l.foldl (partS ids) ([], [])
def pickS (ids : List Id) (p : Named) (s : List Named × List Named) : List Named × List Named :=
  if inIds ids p = true then (p :: s.1, s.2) else match pastN p s.1 with
    | some (m, x) => (m, x :: s.2)
    | none => (p :: s.1, s.2)
def pickN (l : List Named) (ids : List Id) : List Named × List Named := l.foldr (pickS ids) ([], [])
/-- Each hangs on one ahead of it, or is named. -/
def Hangs (ids : List Id) (b : List Named) : Prop := ∀ (j : Nat) (h : j < b.length), inIds ids b[j] = true ∨ overN (b.take j) b[j] = none
def smallN (u : Int) (l : List Named) : Prop := ∀ p ∈ l, p.l.length ≤ 10 ∧ atMost u p.l
theorem smallN.all {u : Int} {l : List Named} (h : smallN u l) : (allN l).length ≤ l.length * 10 := allN_len fun p hp => (h p hp).1
theorem partS_hangs {ids : List Id} {s b : List Named} {p : Named} {u : Int} (h : Hangs ids b) (hb : smallN u b) (hl : b.length ≤ 100) (hp : p.l.length ≤ 10) (hpu : atMost u p.l) (hu : u + 206000 ≤ 1048376) :
    Hangs ids (partS ids (s, b) p).2 ∧ smallN (u + 2000) (partS ids (s, b) p).2 ∧ (partS ids (s, b) p).2.length ≤ b.length + 1 := by
  have base : (inIds ids p = true ∨ overN b p = none) → Hangs ids (b ++ [p]) ∧ smallN (u + 2000) (b ++ [p]) ∧ (b ++ [p]).length ≤ b.length + 1 := fun hc => by
    refine ⟨fun j hj => ?_, fun x hx => ?_, by simp⟩
    · by_cases k : j < b.length
      · rw [List.getElem_append_left k, List.take_append_of_le_length (by omega)]
        exact h j k
      · have : j = b.length := by simp at hj; omega
        subst this
        rw [List.take_append_of_le_length (Nat.le_refl _), List.take_length, List.getElem_append_right (Nat.le_refl _)]
        simpa using hc
    · rcases List.mem_append.1 hx with hx | hx
      · exact ⟨(hb x hx).1, (hb x hx).2.mono (by omega)⟩
      · simp only [List.mem_singleton] at hx
        subst hx
        exact ⟨hp, hpu.mono (by omega)⟩
  unfold partS
  split
  · rename_i hi; exact base (.inl hi)
  · rename_i hi
    split
    · rename_i x m e
      simp only at e ⊢
      have hlen := overN_len e
      obtain ⟨k1, k2⟩ := overN_like e
      refine ⟨fun j hj => ?_, fun z hz => ?_, by omega⟩
      · rcases h j (by omega) with hn | hn
        · left
          rw [inIds_like (k2 j hj (by omega))]
          exact hn
        · by_cases hc : overN (m.take j) m[j] = none
          · exact .inr hc
          · exfalso
            have hjb : j < b.length := by omega
            rw [← List.take_append_drop j b, List.drop_eq_getElem_cons hjb] at e
            obtain ⟨y, d', a', g1, g2, g3⟩ := overN_append.1 e
            obtain ⟨y', b', d'', g4, g5, g6⟩ := overN_cons.1 g1
            have hal := overN_len g2
            simp only [List.length_take] at hal
            have ha : a' = m.take j := by rw [g3, List.take_append_of_le_length (by omega), List.take_of_length_le (by omega)]
            have hm : m[j] = b' := by
              have : m[j]? = some b' := by rw [g3, List.getElem?_append_right (by omega), g6]; simp [show j - a'.length = 0 by omega]
              rw [List.getElem?_eq_getElem hj] at this
              exact Option.some.inj this
            have s1 : smallN u (b.take j) := fun z hz => hb z (List.mem_of_mem_take hz)
            have s2 : smallN u (b.drop (j + 1)) := fun z hz => hb z (List.mem_of_mem_drop hz)
            have l1 := s1.all
            have l2 := s2.all
            simp only [List.length_take, List.length_drop] at l1 l2
            have hbj := hb _ (List.getElem_mem hjb)
            have py := (overN_at g4 (fun z hz => (s2 z hz).2) hpu).1
            have pl := (overN_like g4).1.2.2.2
            cases hc' : overN a' b' with
            | none => rw [← ha, hm] at hc; exact hc hc'
            | some r =>
              obtain ⟨q2, A2, p2, i1, i2, i3⟩ := ybeO (u := u + 200 * (allN (b.drop (j + 1))).length) g5 g2 hc' (fun z hz => (s1 z hz).2.mono (by omega)) (hbj.2.mono (by omega)) py (by rw [pl]; omega)
              rw [hn] at i1
              simp at i1
      · have hz' := (overN_at e (fun z hz => (hb z hz).2) hpu).2 z hz
        obtain ⟨i, hi, rfl⟩ := List.getElem_of_mem hz
        rw [(k2 i hi (by omega)).2.2.2]
        exact ⟨(hb _ (List.getElem_mem _)).1, hz'.mono (by omega)⟩
    · rename_i e; exact base (.inr e)
theorem part_hangs {ids : List Id} {l : List Named} (hl : l.length ≤ 100) (h : smallN 524288 l) : Hangs ids (partN l ids).2 := by
  have key : ∀ (l s b : List Named) (i : Nat), Hangs ids b → smallN (524288 + 2000 * i) b → b.length ≤ i → i + l.length ≤ 100 → smallN 524288 l → Hangs ids (l.foldl (partS ids) (s, b)).2 := by
    intro l
    induction l with
    | nil => intro s b i h1 _ _ _ _; exact h1
    | cons p l ih =>
      intro s b i h1 h2 h3 h4 h5
      simp only [List.length_cons] at h4
      obtain ⟨k1, k2, k3⟩ := partS_hangs (s := s) h1 h2 (by omega) (h5 p (by simp)).1 ((h5 p (by simp)).2.mono (by omega)) (by omega)
      rw [List.foldl_cons]
      exact ih (partS ids (s, b) p).1 (partS ids (s, b) p).2 (i + 1) k1 (fun z hz => ⟨(k2 z hz).1, (k2 z hz).2.mono (by omega)⟩) (by omega) (by omega) fun z hz => h5 z (by simp [hz])
  exact key l [] [] 0 (fun j hj => by simp at hj) (fun p hp => by simp at hp) (by simp) (by omega) h
/-- Each is needed by one behind it, or is named. -/
def Needs (ids : List Id) (b : List Named) : Prop := ∀ (j : Nat) (h : j < b.length), inIds ids b[j] = true ∨ pastN b[j] (b.drop (j + 1)) = none
theorem pickS_needs {ids : List Id} {s b : List Named} {p : Named} {u : Int} (h : Needs ids b) (hb : smallN u b) (hl : b.length ≤ 100) (hp : p.l.length ≤ 10) (hpu : atMost u p.l) (hu : u + 206000 ≤ 1048376) :
    Needs ids (pickS ids p (b, s)).1 ∧ smallN (u + 2000) (pickS ids p (b, s)).1 ∧ (pickS ids p (b, s)).1.length ≤ b.length + 1 := by
  have base : (inIds ids p = true ∨ pastN p b = none) → Needs ids (p :: b) ∧ smallN (u + 2000) (p :: b) ∧ (p :: b).length ≤ b.length + 1 := fun hc => by
    refine ⟨fun j hj => ?_, fun x hx => ?_, by simp⟩
    · cases j with
      | zero => simpa using hc
      | succ j => simpa using h j (by simpa using hj)
    · rcases List.mem_cons.1 hx with rfl | hx
      · exact ⟨hp, hpu.mono (by omega)⟩
      · exact ⟨(hb x hx).1, (hb x hx).2.mono (by omega)⟩
  unfold pickS
  split
  · rename_i hi; exact base (.inl hi)
  · rename_i hi
    split
    · rename_i m x e
      simp only at e ⊢
      obtain ⟨k1, hlen, k2⟩ := pastN_like e
      refine ⟨fun j hj => ?_, fun z hz => ?_, by omega⟩
      · rcases h j (by omega) with hn | hn
        · left
          rw [inIds_like (k2 j hj (by omega))]
          exact hn
        · by_cases hc : pastN m[j] (m.drop (j + 1)) = none
          · exact .inr hc
          · exfalso
            have hjb : j < b.length := by omega
            rw [← List.take_append_drop j b, List.drop_eq_getElem_cons hjb] at e
            obtain ⟨a', y, d', g1, g2, g3⟩ := pastN_append.1 e
            obtain ⟨b', y', d'', g4, g5, g6⟩ := pastN_cons.1 g2
            have hal := (pastN_like g1).2.1
            simp only [List.length_take] at hal
            have hd : d'' = m.drop (j + 1) := by rw [g3, g6, List.drop_append, List.drop_of_length_le (by omega), show j + 1 - a'.length = 1 by omega]; rfl
            have hm : m[j] = b' := by
              have : m[j]? = some b' := by rw [g3, List.getElem?_append_right (by omega), g6]; simp [show j - a'.length = 0 by omega]
              rw [List.getElem?_eq_getElem hj] at this
              exact Option.some.inj this
            have s1 : smallN u (b.take j) := fun z hz => hb z (List.mem_of_mem_take hz)
            have s2 : smallN u (b.drop (j + 1)) := fun z hz => hb z (List.mem_of_mem_drop hz)
            have l1 := s1.all
            have l2 := s2.all
            simp only [List.length_take, List.length_drop] at l1 l2
            have hbj := hb _ (List.getElem_mem hjb)
            have py := (pastN_at g1 hpu (fun z hz => (s1 z hz).2)).1
            have pl := (pastN_like g1).1.2.2.2
            cases hc' : pastN b' d'' with
            | none => rw [← hd, hm] at hc; exact hc hc'
            | some r =>
              obtain ⟨r', i1⟩ := ybeQ (u := u + 200 * (allN (b.take j)).length) g4 g5 hc' (fun z hz => (s2 z hz).2.mono (by omega)) py (hbj.2.mono (by omega)) (by rw [pl]; omega)
              rw [hn] at i1
              simp at i1
      · have hz' := (pastN_at e hpu (fun z hz => (hb z hz).2)).2 z hz
        obtain ⟨i, hi, rfl⟩ := List.getElem_of_mem hz
        rw [(k2 i hi (by omega)).2.2.2]
        exact ⟨(hb _ (List.getElem_mem _)).1, hz'.mono (by omega)⟩
    · rename_i e; exact base (.inr e)
theorem pick_needs {ids : List Id} {l : List Named} (hl : l.length ≤ 100) (h : smallN 524288 l) : Needs ids (pickN l ids).1 := by
  have key : ∀ l : List Named, l.length ≤ 100 → smallN 524288 l → Needs ids (l.foldr (pickS ids) ([], [])).1 ∧ smallN (524288 + 2000 * l.length) (l.foldr (pickS ids) ([], [])).1 ∧ (l.foldr (pickS ids) ([], [])).1.length ≤ l.length := by
    intro l
    induction l with
    | nil => intro _ _; exact ⟨fun j hj => by simp at hj, fun p hp => by simp at hp, by simp⟩
    | cons p l ih =>
      intro h4 h5
      simp only [List.length_cons] at h4
      obtain ⟨i1, i2, i3⟩ := ih (by omega) fun z hz => h5 z (by simp [hz])
      obtain ⟨k1, k2, k3⟩ := pickS_needs (s := (l.foldr (pickS ids) ([], [])).2) i1 i2 (by omega) (h5 p (by simp)).1 ((h5 p (by simp)).2.mono (by omega)) (by omega)
      rw [List.foldr_cons]
      have k3 : (pickS ids p (l.foldr (pickS ids) ([], []))).1.length ≤ (l.foldr (pickS ids) ([], [])).1.length + 1 := k3
      exact ⟨k1, fun z hz => ⟨(k2 z hz).1, (k2 z hz).2.mono (by simp only [List.length_cons]; omega)⟩, by simp only [List.length_cons]; omega⟩
  exact (key l hl h).1
end Go.Qm

/- What stays, what is put behind, what is picked: the whole of it. -/
namespace Go.Qm
open Go.RowKit Go.Vam
set_option linter.unusedSimpArgs false
set_option linter.unusedVariables false

def idsN (l : List Named) : List Id := l.map (·.id)
theorem ids_same {m l : List Named} (hl : m.length = l.length) (h : ∀ (i : Nat) (hi : i < m.length) (hi' : i < l.length), likeN m[i] l[i]) : idsN m = idsN l := by
  refine List.ext_getElem (by simp [idsN, hl]) fun i h1 h2 => ?_
  simp only [idsN, List.getElem_map]
  exact (h i (by simpa [idsN] using h1) (by simpa [idsN] using h2)).1
theorem overN_ids {l : List Named} {q y : Named} {m : List Named} (h : overN l q = some (y, m)) : idsN m = idsN l := ids_same (overN_len h) (overN_like h).2
theorem pastN_ids {l : List Named} {q y : Named} {m : List Named} (h : pastN q l = some (m, y)) : idsN m = idsN l := ids_same (pastN_like h).2.1 (pastN_like h).2.2
theorem idsN_append (a b : List Named) : idsN (a ++ b) = idsN a ++ idsN b := by simp [idsN]
theorem idsN_cons (p : Named) (b : List Named) : idsN (p :: b) = p.id :: idsN b := rfl
theorem partS_perm (ids : List Id) (s b : List Named) (p : Named) : List.Perm (idsN ((partS ids (s, b) p).1 ++ (partS ids (s, b) p).2)) (idsN (s ++ b) ++ [p.id]) := by
  unfold partS
  split
  · simp only [idsN_append, List.append_assoc]
    exact .refl _
  · split
    · rename_i x m e
      simp only at e ⊢
      rw [idsN_append, idsN_append, idsN_append, overN_ids e, show idsN [x] = [p.id] by simp [idsN, (overN_like e).1.1], List.append_assoc, List.append_assoc]
      exact List.Perm.append_left _ List.perm_append_comm
    · simp only [idsN_append, List.append_assoc]
      exact .refl _
theorem part_perm (ids : List Id) (l : List Named) : List.Perm (idsN ((partN l ids).1 ++ (partN l ids).2)) (idsN l) := by
  have key : ∀ (l s b : List Named), List.Perm (idsN ((l.foldl (partS ids) (s, b)).1 ++ (l.foldl (partS ids) (s, b)).2)) (idsN (s ++ b) ++ idsN l) := by
    intro l
    induction l with
    | nil => intro s b; simp [idsN]
    | cons p l ih =>
      intro s b
      have h1 := ih (partS ids (s, b) p).1 (partS ids (s, b) p).2
      rw [List.foldl_cons]
      refine h1.trans ?_
      rw [idsN_cons, show idsN (s ++ b) ++ p.id :: idsN l = (idsN (s ++ b) ++ [p.id]) ++ idsN l by simp]
      exact (partS_perm ids s b p).append_right _
  have := key l [] []
  simpa [idsN, partN] using this
theorem pickS_perm (ids : List Id) (s b : List Named) (p : Named) : List.Perm (idsN ((pickS ids p (b, s)).1 ++ (pickS ids p (b, s)).2)) (p.id :: idsN (b ++ s)) := by
  unfold pickS
  split
  · simp only [List.cons_append, idsN_cons]
    exact .refl _
  · split
    · rename_i m x e
      simp only at e ⊢
      rw [idsN_append, idsN_cons, idsN_append, pastN_ids e, (pastN_like e).1.1]
      exact List.perm_middle
    · simp only [List.cons_append, idsN_cons]
      exact .refl _
theorem pick_perm (ids : List Id) (l : List Named) : List.Perm (idsN ((pickN l ids).1 ++ (pickN l ids).2)) (idsN l) := by
  induction l with
  | nil => exact .refl _
  | cons p l ih => exact (pickS_perm ids (pickN l ids).2 (pickN l ids).1 p).trans (ih.cons p.id)
theorem partS_stay {ids : List Id} {s b : List Named} {p : Named} (h : ∀ x ∈ s, inIds ids x = false) : ∀ x ∈ (partS ids (s, b) p).1, inIds ids x = false := by
  unfold partS
  split
  · exact h
  · rename_i hi
    split
    · rename_i x m e
      simp only at e ⊢
      intro z hz
      rcases List.mem_append.1 hz with hz | hz
      · exact h z hz
      · simp only [List.mem_singleton] at hz
        subst hz
        rw [inIds_like (overN_like e).1]
        simpa using hi
    · exact h
theorem part_stay {ids : List Id} (l : List Named) : ∀ x ∈ (partN l ids).1, inIds ids x = false := by
  have key : ∀ (l s b : List Named), (∀ x ∈ s, inIds ids x = false) → ∀ x ∈ (l.foldl (partS ids) (s, b)).1, inIds ids x = false := by
    intro l
    induction l with
    | nil => intro s b h; exact h
    | cons p l ih =>
      intro s b h
      rw [List.foldl_cons]
      exact ih (partS ids (s, b) p).1 (partS ids (s, b) p).2 (partS_stay h)
  exact key l [] [] (by simp)
theorem pick_rest {ids : List Id} (l : List Named) : ∀ x ∈ (pickN l ids).2, inIds ids x = false := by
  induction l with
  | nil => intro x hx; simp [pickN] at hx
  | cons p l ih =>
    show ∀ x ∈ (pickS ids p (pickN l ids)).2, inIds ids x = false
    unfold pickS
    split
    · exact ih
    · rename_i hi
      split
      · rename_i m x e
        intro z hz
        rcases List.mem_cons.1 hz with rfl | hz
        · rw [inIds_like (pastN_like e).1]
          simpa using hi
        · exact ih z hz
      · exact ih
/-- None of these. -/
theorem part_none {ids : List Id} {l : List Named} (h : ∀ p ∈ l, inIds ids p = false) : partN l ids = (l, []) := by
  have key : ∀ (l s : List Named), (∀ p ∈ l, inIds ids p = false) → l.foldl (partS ids) (s, []) = (s ++ l, []) := by
    intro l
    induction l with
    | nil => intro s _; simp
    | cons p l ih =>
      intro s h
      rw [List.foldl_cons, show partS ids (s, []) p = (s ++ [p], []) by simp [partS, h p (by simp), overN], ih (s ++ [p]) fun x hx => h x (by simp [hx])]
      simp
  have := key l [] h
  simpa [partN] using this
theorem pick_none {ids : List Id} {l : List Named} (h : ∀ p ∈ l, inIds ids p = false) : pickN l ids = ([], l) := by
  induction l with
  | nil => rfl
  | cons p l ih =>
    show pickS ids p (pickN l ids) = _
    rw [ih fun x hx => h x (by simp [hx])]
    simp [pickS, h p (by simp), pastN]
theorem inIds_iff {ids : List Id} {p : Named} : inIds ids p = true ↔ p.id ∈ ids := by
  unfold inIds
  rw [List.any_eq_true]
  constructor
  · rintro ⟨x, hx, h⟩
    rw [← idEq_iff.1 h]
    exact hx
  · intro h
    exact ⟨p.id, h, idEq_iff.2 rfl⟩
/-- By all that was put behind it is the same. -/
theorem part_again {ids : List Id} {l : List Named} (hn : (idsN l).Nodup) : partN l (idsN (partN l ids).2) = partN l ids := by
  have bm : ∀ (l s b : List Named) (x : Id), x ∈ idsN b → x ∈ idsN (l.foldl (partS ids) (s, b)).2 := by
    intro l
    induction l with
    | nil => intro s b x h; exact h
    | cons p l ih =>
      intro s b x h
      rw [List.foldl_cons]
      refine ih (partS ids (s, b) p).1 (partS ids (s, b) p).2 x ?_
      unfold partS
      split
      · simp [idsN_append, h]
      · split
        · rename_i y m e
          simp only at e ⊢
          rw [overN_ids e]
          exact h
        · simp [idsN_append, h]
  have key : ∀ (l s b : List Named) (all : List Id), (idsN (s ++ b) ++ idsN l).Nodup → (∀ x, x ∈ all ↔ x ∈ idsN (l.foldl (partS ids) (s, b)).2) → l.foldl (partS all) (s, b) = l.foldl (partS ids) (s, b) := by
    intro l
    induction l with
    | nil => intro s b all _ _; rfl
    | cons p l ih =>
      intro s b all hn ha
      rw [List.foldl_cons] at ha ⊢
      rw [List.foldl_cons]
      have hpm := partS_perm ids s b p
      have hn' : (idsN ((partS ids (s, b) p).1 ++ (partS ids (s, b) p).2) ++ idsN l).Nodup := by
        refine ((hpm.append_right (idsN l)).nodup_iff).2 ?_
        simpa [idsN_cons] using hn
      have hst : partS all (s, b) p = partS ids (s, b) p := by
        by_cases hp : p.id ∈ idsN (partS ids (s, b) p).2
        · have h1 : inIds all p = true := inIds_iff.2 ((ha _).2 (bm l (partS ids (s, b) p).1 (partS ids (s, b) p).2 _ hp))
          have h2 : partS ids (s, b) p = (s, b ++ [p]) := by
            revert hp
            unfold partS
            split
            · intro _; rfl
            · split
              · rename_i y m e
                simp only at e ⊢
                intro hp
                exfalso
                rw [overN_ids e] at hp
                rw [idsN_cons, idsN_append, List.nodup_append] at hn
                exact hn.2.2 p.id (List.mem_append_right _ hp) p.id (by simp) rfl
              · intro _; rfl
          rw [h2]
          simp [partS, h1]
        · have h1 : inIds all p = false := by
            cases h : inIds all p with
            | false => rfl
            | true =>
              exfalso
              have h2 := (ha _).1 (inIds_iff.1 h)
              -- the ids of what is behind are those of b, of p if it is put there, and of l
              have h3 : ∀ (l s b : List Named), ∀ x ∈ idsN (l.foldl (partS ids) (s, b)).2, x ∈ idsN b ∨ x ∈ idsN l := by
                intro l
                induction l with
                | nil => intro s b x hx; exact .inl hx
                | cons q l ih' =>
                  intro s b x hx
                  rw [List.foldl_cons] at hx
                  rcases ih' (partS ids (s, b) q).1 (partS ids (s, b) q).2 x hx with h | h
                  · revert h
                    unfold partS
                    split
                    · simp only [idsN_append, List.mem_append, idsN_cons, List.mem_cons]
                      rintro (h | h)
                      · exact .inl h
                      · simp [idsN] at h; exact .inr (.inl h)
                    · split
                      · rename_i y m e
                        simp only at e ⊢
                        rw [overN_ids e]
                        exact .inl
                      · simp only [idsN_append, List.mem_append, idsN_cons, List.mem_cons]
                        rintro (h | h)
                        · exact .inl h
                        · simp [idsN] at h; exact .inr (.inl h)
                  · exact .inr (by rw [idsN_cons]; exact List.mem_cons_of_mem _ h)
              rcases h3 l _ _ _ h2 with h | h
              · exact hp h
              · rw [idsN_cons, List.nodup_append] at hn
                exact (List.nodup_cons.1 hn.2.1).1 h
          revert hp
          unfold partS
          rw [h1]
          split
          · intro hp; simp [idsN] at hp
          · simp only [Bool.false_eq_true, if_false]
            intro _; trivial
      rw [hst]
      exact ih (partS ids (s, b) p).1 (partS ids (s, b) p).2 all hn' ha
  refine key l [] [] _ (by simpa [idsN] using hn) fun x => Iff.rfl
/-! ### Upon trees -/
theorem allN_app (a b : List Named) : allN (a ++ b) = allN a ++ allN b := allN_append a b
theorem run_swap {t : List File} {a b c d : List Prim} (hs : Srt t) (h : (runL t (a ++ b ++ c)).2 = 0) (hb : ∀ u : List File, Srt u → (runL u b).2 = 0 → runL u d = runL u b) : runL t (a ++ d ++ c) = runL t (a ++ b ++ c) := by
  obtain ⟨h1, _⟩ := runL_ok.1 h
  obtain ⟨h2, h3⟩ := runL_ok.1 h1
  have e := hb _ (runL_srt hs h2) h3
  have k1 : runL t (a ++ d) = runL t (a ++ b) := by rw [runL_app h2, runL_app h2, e]
  have k2 : (runL t (a ++ d)).2 = 0 := by rw [k1]; exact h1
  rw [runL_app k2, runL_app h1, k1]
theorem part_run {t : List File} {ids : List Id} {l : List Named} (hs : Srt t) (h : (runL t (allN l)).2 = 0) : runL t (allN ((partN l ids).1 ++ (partN l ids).2)) = runL t (allN l) := by
  have key : ∀ (l s b : List Named), (runL t (allN (s ++ b ++ l))).2 = 0 → runL t (allN ((l.foldl (partS ids) (s, b)).1 ++ (l.foldl (partS ids) (s, b)).2)) = runL t (allN (s ++ b ++ l)) := by
    intro l
    induction l with
    | nil => intro s b _; simp
    | cons p l ih =>
      intro s b h
      rw [List.foldl_cons]
      have e : runL t (allN ((partS ids (s, b) p).1 ++ (partS ids (s, b) p).2 ++ l)) = runL t (allN (s ++ b ++ p :: l)) := by
        unfold partS
        split
        · simp
        · split
          · rename_i x m e
            simp only at e ⊢
            have e1 : allN (s ++ [x] ++ m ++ l) = allN s ++ (x.l ++ allN m) ++ allN l := by simp [allN_app, allN_cons, show allN [x] = x.l by simp [allN]]
            have e2 : allN (s ++ b ++ p :: l) = allN s ++ (allN b ++ p.l) ++ allN l := by simp [allN_app, allN_cons]
            rw [e2] at h
            rw [e1, e2]
            exact run_swap hs h fun u hu ho => overN_run hu ho e
          · simp
      rw [← e] at h
      rw [← e]
      exact ih (partS ids (s, b) p).1 (partS ids (s, b) p).2 h
  have := key l [] [] (by simpa using h)
  simpa [partN] using this
theorem pastN_run {p z : Named} {l m : List Named} {t : List File} (hs : Srt t) (h : (runL t (p.l ++ allN l)).2 = 0) (hp : pastN p l = some (m, z)) : runL t (allN m ++ z.l) = runL t (p.l ++ allN l) := by
  induction l generalizing t p m with
  | nil =>
    simp only [pastN, Option.some.injEq, Prod.mk.injEq] at hp
    obtain ⟨rfl, rfl⟩ := hp
    simp [allN]
  | cons x l ih =>
    obtain ⟨y, p1, m', g1, g2, rfl⟩ := pastN_cons.1 hp
    rw [allN_cons, ← List.append_assoc] at h
    obtain ⟨h1, h2⟩ := runL_ok.1 h
    have e := passN_run hs h1 g1
    have h1' : (runL t (y.l ++ p1.l)).2 = 0 := by rw [e]; exact h1
    have h3 : (runL t ((y.l ++ p1.l) ++ allN l)).2 = 0 := by rw [runL_app h1', e, ← runL_app h1]; exact h
    rw [List.append_assoc] at h3
    obtain ⟨h4, h5⟩ := runL_ok.1 h3
    have i := ih (runL_srt hs h4) h5 g2
    rw [allN_cons, allN_cons, List.append_assoc, runL_app h4, i, ← runL_app h4, ← List.append_assoc, runL_app h1', e, ← runL_app h1, List.append_assoc]
theorem pick_run {t : List File} {ids : List Id} {l : List Named} (hs : Srt t) (h : (runL t (allN l)).2 = 0) : runL t (allN ((pickN l ids).1 ++ (pickN l ids).2)) = runL t (allN l) := by
  induction l generalizing t with
  | nil => rfl
  | cons p l ih =>
    rw [allN_cons] at h
    obtain ⟨h1, h2⟩ := runL_ok.1 h
    have i := ih (runL_srt hs h1) h2
    have e : runL t (p.l ++ allN ((pickN l ids).1 ++ (pickN l ids).2)) = runL t (p.l ++ allN l) := by rw [runL_app h1, runL_app h1, i]
    rw [allN_cons, ← e]
    rw [← e] at h
    show runL t (allN ((pickS ids p (pickN l ids)).1 ++ (pickS ids p (pickN l ids)).2)) = _
    unfold pickS
    split
    · simp [allN_cons]
    · split
      · rename_i m x e
        have e1 : allN (m ++ x :: (pickN l ids).2) = [] ++ (allN m ++ x.l) ++ allN (pickN l ids).2 := by simp [allN_app, allN_cons]
        have e2 : p.l ++ allN ((pickN l ids).1 ++ (pickN l ids).2) = [] ++ (p.l ++ allN (pickN l ids).1) ++ allN (pickN l ids).2 := by simp [allN_app]
        rw [e2] at h
        simp only
        rw [e1, e2]
        exact run_swap hs h fun u hu ho => pastN_run hu ho e
      · simp [allN_cons]
end Go.Qm

/- Merging: the plain functions and their laws. -/
namespace Go.Qm
open Go.RowKit Go.Vam
set_option linter.unusedSimpArgs false
set_option linter.unusedVariables false

instance : DecidableEq Id := fun a b => if h : idEq a b = true then isTrue (idEq_iff.1 h) else isFalse fun e => h (idEq_iff.2 e)
def hasI (l : List Named) (x : Id) : Bool := l.any fun p => idEq p.id x
theorem hasI_iff {l : List Named} {x : Id} : hasI l x = true ↔ x ∈ idsN l := by
  rw [hasI, List.any_eq_true]
  constructor
  · rintro ⟨p, hp, h⟩
    exact List.mem_map.2 ⟨p, hp, idEq_iff.1 h⟩
  · intro h
    obtain ⟨p, hp, h⟩ := List.mem_map.1 h
    exact ⟨p, hp, idEq_iff.2 h⟩
theorem hasI_not {l : List Named} {x : Id} : hasI l x = false ↔ x ∉ idsN l := by rw [← hasI_iff]; simp
/-- The ids of the second ones that are not among the first ones. -/
def missN (a b : List Named) : List Id := (idsN b).filter fun x => !hasI a x
def twiceN (l : List Named) : Bool := !decide (idsN l).Nodup
theorem twiceN_not {l : List Named} : twiceN l = false ↔ (idsN l).Nodup := by simp [twiceN]
/-! ### Keys -/
def keyI (x : Id) : Int × Int := (x.who, x.no)
theorem keyI_inj {x y : Id} (h : keyI x = keyI y) : x = y := by
  cases x; cases y
  simp only [keyI, Prod.mk.injEq] at h
  simp [h]
def keysN (l : List Named) : List (Int × Int) := ((idsN l).map keyI).foldl putK []
theorem keys_take {l : List Named} {i : Nat} (h : i < l.length) : keysN (l.take (i + 1)) = putK (keysN (l.take i)) (keyI l[i].id) := by
  rw [keysN, keysN, List.take_add_one, List.getElem?_eq_getElem h, idsN_append, List.map_append, List.foldl_append]
  rfl
theorem fold_mem (ks : List (Int × Int)) : ∀ (acc : List (Int × Int)) (x : Int × Int), x ∈ ks.foldl putK acc ↔ x ∈ acc ∨ x ∈ ks := by
  induction ks with
  | nil => intro acc x; simp
  | cons k ks ih =>
    intro acc x
    rw [List.foldl_cons, ih]
    by_cases hk : k ∈ acc
    · rw [show putK acc k = acc from if_pos hk]
      constructor
      · rintro (h | h)
        · exact .inl h
        · exact .inr (List.mem_cons_of_mem _ h)
      · rintro (h | h)
        · exact .inl h
        · rcases List.mem_cons.1 h with rfl | h
          · exact .inl hk
          · exact .inr h
    · rw [show putK acc k = acc ++ [k] from if_neg hk]
      simp [or_assoc]
theorem keys_mem {l : List Named} {x : Id} : keyI x ∈ keysN l ↔ x ∈ idsN l := by
  rw [keysN, fold_mem]
  simp only [List.not_mem_nil, false_or, List.mem_map]
  constructor
  · rintro ⟨y, hy, h⟩
    rw [← keyI_inj h]; exact hy
  · intro h; exact ⟨x, h, rfl⟩
theorem keys_dec (l : List Named) (x : Id) : decide (keyI x ∈ keysN l) = hasI l x := by
  rw [Bool.eq_iff_iff, decide_eq_true_eq, hasI_iff, keys_mem]
theorem fold_len (ks : List (Int × Int)) : ∀ (acc : List (Int × Int)), acc.Nodup → (ks.foldl putK acc).length ≤ acc.length + ks.length ∧ ((ks.foldl putK acc).length < acc.length + ks.length ↔ ¬ (acc ++ ks).Nodup) := by
  induction ks with
  | nil => intro acc h; simp [h]
  | cons k ks ih =>
    intro acc h
    rw [List.foldl_cons]
    by_cases hk : k ∈ acc
    · rw [show putK acc k = acc from if_pos hk]
      obtain ⟨i1, _⟩ := ih acc h
      refine ⟨by simp only [List.length_cons]; omega, ?_⟩
      constructor
      · intro _ hn
        rw [List.nodup_append] at hn
        exact hn.2.2 k hk k (by simp) rfl
      · intro _
        simp only [List.length_cons]; omega
    · rw [show putK acc k = acc ++ [k] from if_neg hk]
      have hn : (acc ++ [k]).Nodup := by
        rw [List.nodup_append]
        refine ⟨h, by simp, fun x hx y hy e => ?_⟩
        simp only [List.mem_singleton] at hy
        subst hy; subst e
        exact hk hx
      obtain ⟨i1, i2⟩ := ih (acc ++ [k]) hn
      simp only [List.length_append, List.length_cons, List.length_nil] at i1 i2 ⊢
      refine ⟨by omega, ?_⟩
      rw [show acc ++ k :: ks = acc ++ [k] ++ ks by simp]
      rw [← i2]
      omega
theorem keys_twice (l : List Named) : decide ((keysN l).length < l.length) = twiceN l := by
  have h := (fold_len ((idsN l).map keyI) [] (by simp)).2
  simp only [List.length_nil, List.nil_append, Nat.zero_add, List.length_map] at h
  have h2 : (idsN l).length = l.length := by simp [idsN]
  rw [h2] at h
  have h3 : ((idsN l).map keyI).Nodup ↔ (idsN l).Nodup := by
    constructor
    · intro hn
      exact List.Pairwise.of_map _ (fun a b hab e => hab (by rw [e])) hn
    · intro hn
      exact List.Pairwise.map _ (fun a b hab e => hab (keyI_inj e)) hn
  rw [Bool.eq_iff_iff, decide_eq_true_eq, keysN, h, h3, twiceN]
  simp
/-! ### What is carried -/
def carryN : List Prim → List Named → Option (List Named)
  | _, [] => some []
  | u, p :: l => match passL u p.l with
    | none => none
    | some (f, v) => match carryN v l with
      | none => none
      | some m => some (withL p f :: m)
def mergeN (a b : List Named) : List Named × Int :=
  if twiceN a = true ∨ twiceN b = true then ([], 1)
  else if (partN a (missN b a)).2.length > (missN b a).length ∨ (partN b (missN a b)).2.length > (missN a b).length then ([], 6)
  else match carryN (turnL (allN (partN a (missN b a)).2)) (partN b (missN a b)).2 with
    | none => ([], 7)
    | some m => (a ++ m, 0)
theorem carryN_eq (u : List Prim) (p : Named) (l : List Named) : carryN u (p :: l) = match passL u p.l with
    | none => none
    | some (f, v) => match carryN v l with
      | none => none
      | some m => some (withL p f :: m) := rfl
theorem carryN_cons {u : List Prim} {p : Named} {l m : List Named} : carryN u (p :: l) = some m ↔ ∃ f v m', passL u p.l = some (f, v) ∧ carryN v l = some m' ∧ m = withL p f :: m' := by
  rw [carryN_eq]
  constructor
  · intro h
    split at h
    · cases h
    · rename_i f v e
      split at h
      · cases h
      · rename_i m' e2
        simp only [Option.some.injEq] at h
        exact ⟨f, v, m', e, e2, h.symm⟩
  · rintro ⟨f, v, m', h1, h2, rfl⟩
    rw [h1]
    simp only
    rw [h2]
/-- They are carried just if all their changes pass, and are these. -/
theorem carryN_all {l : List Named} : ∀ {u : List Prim}, (∀ m, carryN u l = some m → ∃ v, passL u (allN l) = some (allN m, v)) ∧ (carryN u l = none → passL u (allN l) = none) := by
  induction l with
  | nil =>
    intro u
    refine ⟨fun m h => ?_, fun h => by simp [carryN] at h⟩
    simp only [carryN, Option.some.injEq] at h
    subst h
    exact ⟨u, (passL_nr u).2 ⟨by simp [allN], rfl⟩⟩
  | cons p l ih =>
    intro u
    refine ⟨fun m h => ?_, fun h => ?_⟩
    · obtain ⟨f, v, m', h1, h2, rfl⟩ := carryN_cons.1 h
      obtain ⟨v', h3⟩ := ih.1 m' h2
      exact ⟨v', by rw [allN_cons]; exact passL_right.2 ⟨f, allN m', v, h1, h3, by rw [allN_cons]; rfl⟩⟩
    · cases hp : passL u (allN (p :: l)) with
      | none => rfl
      | some r =>
        exfalso
        obtain ⟨F, V⟩ := r
        rw [allN_cons] at hp
        obtain ⟨f, c, v, h1, h2, _⟩ := passL_right.1 hp
        rw [carryN_eq] at h
        rw [h1] at h
        simp only at h
        split at h
        · rename_i e
          rw [ih.2 e] at h2
          cases h2
        · cases h
theorem carryN_like {l m : List Named} : ∀ {u : List Prim}, carryN u l = some m → m.length = l.length ∧ ∀ (i : Nat) (hi : i < m.length) (hi' : i < l.length), likeN m[i] l[i] := by
  induction l generalizing m with
  | nil =>
    intro u h
    simp only [carryN, Option.some.injEq] at h
    subst h
    exact ⟨rfl, by simp⟩
  | cons p l ih =>
    intro u h
    obtain ⟨f, v, m', h1, h2, rfl⟩ := carryN_cons.1 h
    obtain ⟨i1, i2⟩ := ih h2
    refine ⟨by simp [i1], fun i hi hi' => ?_⟩
    cases i with
    | zero => exact ⟨rfl, rfl, rfl, (passL_len h1).1⟩
    | succ i => exact i2 i (by simpa using hi) (by simpa using hi')
theorem carryN_take {u : List Prim} {l : List Named} {i : Nat} {m : List Named} {v : List Prim} (h : i < l.length) (hc : carryN u (l.take i) = some m) (hv : passL u (allN (l.take i)) = some (allN m, v)) :
    (∀ f w, passL v l[i].l = some (f, w) → carryN u (l.take (i + 1)) = some (m ++ [withL l[i] f]) ∧ passL u (allN (l.take (i + 1))) = some (allN (m ++ [withL l[i] f]), w)) ∧ (passL v l[i].l = none → carryN u l = none) := by
  have app : ∀ (a b : List Named) (u v : List Prim) (m : List Named), carryN u a = some m → passL u (allN a) = some (allN m, v) → carryN u (a ++ b) = (carryN v b).map (m ++ ·) := by
    intro a
    induction a with
    | nil =>
      intro b u v m h1 h2
      simp only [carryN, Option.some.injEq] at h1
      subst h1
      have := (passL_nr u).1 (show passL u [] = some ([], v) from h2)
      rw [this.2, List.nil_append]
      cases carryN u b <;> rfl
    | cons p a ih =>
      intro b u v m h1 h2
      obtain ⟨f, w, m', g1, g2, rfl⟩ := carryN_cons.1 h1
      rw [allN_cons] at h2
      obtain ⟨f', c, w', g3, g4, g5⟩ := passL_right.1 h2
      rw [g1] at g3
      simp only [Option.some.injEq, Prod.mk.injEq] at g3
      obtain ⟨rfl, rfl⟩ := g3
      rw [allN_cons] at g5
      have g6 : c = allN m' := (List.append_cancel_left (show f ++ allN m' = f ++ c from g5)).symm
      subst g6
      have := ih b w v m' g2 g4
      rw [List.cons_append, carryN_eq, g1]
      simp only
      rw [this]
      cases carryN v b <;> simp
  constructor
  · intro f w hp
    have e : l.take (i + 1) = l.take i ++ [l[i]] := by rw [List.take_add_one, List.getElem?_eq_getElem h]; rfl
    rw [e]
    refine ⟨?_, ?_⟩
    · rw [app _ _ u v m hc hv]
      have : carryN v [l[i]] = some [withL l[i] f] := carryN_cons.2 ⟨f, w, [], hp, rfl, rfl⟩
      rw [this]; rfl
    · rw [allN_append, allN_append]
      exact passL_right.2 ⟨allN m, f, v, hv, by simpa [allN] using hp, by simp [allN, withL]⟩
  · intro hp
    have e : l = l.take i ++ (l[i] :: l.drop (i + 1)) := by
      rw [← List.drop_eq_getElem_cons h, List.take_append_drop]
    have h2 := app (l.take i) (l[i] :: l.drop (i + 1)) u v m hc hv
    rw [← e] at h2
    rw [h2]
    have : carryN v (l[i] :: l.drop (i + 1)) = none := by rw [carryN_eq, hp]
    rw [this]; rfl
end Go.Qm

/- Merging: what is merged, either way round. -/
namespace Go.Qm
open Go.RowKit Go.Vam
set_option linter.unusedSimpArgs false
set_option linter.unusedVariables false

theorem len_sub {α : Type} [DecidableEq α] : ∀ {l m : List α}, l.Nodup → (∀ x ∈ l, x ∈ m) → l.length ≤ m.length
  | [], m, _, _ => by simp
  | x :: l, m, hn, h => by
    have hx := h x (by simp)
    rw [List.nodup_cons] at hn
    have := len_sub (l := l) (m := m.erase x) hn.2 fun y hy => by
      have hne : y ≠ x := fun e => hn.1 (e ▸ hy)
      exact (List.mem_erase_of_ne hne).2 (h y (by simp [hy]))
    rw [List.length_erase_of_mem hx] at this
    have : 0 < m.length := List.length_pos_of_mem hx
    simp only [List.length_cons]; omega
theorem part_has {ids : List Id} {l : List Named} {p : Named} (hp : p ∈ l) (hi : inIds ids p = true) : p.id ∈ idsN (partN l ids).2 := by
  have hm : p.id ∈ idsN ((partN l ids).1 ++ (partN l ids).2) := (part_perm ids l).mem_iff.2 (List.mem_map.2 ⟨p, hp, rfl⟩)
  rw [idsN_append] at hm
  rcases List.mem_append.1 hm with h | h
  · exfalso
    obtain ⟨x, hx, he⟩ := List.mem_map.1 h
    have := part_stay (ids := ids) l x hx
    simp only [inIds, he] at this
    simp only [inIds] at hi
    rw [hi] at this
    cases this
  · exact h
theorem missN_nodup {a b : List Named} (h : (idsN b).Nodup) : (missN a b).Nodup := h.filter _
theorem missN_mem {a b : List Named} {x : Id} : x ∈ missN a b ↔ x ∈ idsN b ∧ x ∉ idsN a := by
  rw [missN, List.mem_filter]
  simp only [Bool.not_eq_true', hasI_not]
theorem miss_le {a b : List Named} (h : (idsN b).Nodup) : (missN a b).length ≤ (partN b (missN a b)).2.length := by
  have := len_sub (missN_nodup (a := a) h) (m := idsN (partN b (missN a b)).2) fun x hx => by
    obtain ⟨p, hp, rfl⟩ := List.mem_map.1 (missN_mem.1 hx).1
    exact part_has hp (inIds_iff.2 hx)
  simpa [idsN] using this
theorem mergeN_ok {a b : List Named} (h : (mergeN a b).2 = 0) : ∃ m, (idsN a).Nodup ∧ (idsN b).Nodup ∧ (partN a (missN b a)).2.length = (missN b a).length ∧ (partN b (missN a b)).2.length = (missN a b).length ∧
    carryN (turnL (allN (partN a (missN b a)).2)) (partN b (missN a b)).2 = some m ∧ mergeN a b = (a ++ m, 0) := by
  unfold mergeN at h ⊢
  split at h
  · simp at h
  · rename_i h1
    split at h
    · simp at h
    · rename_i h2
      split at h
      · simp at h
      · rename_i m e
        have ha : twiceN a = false := by cases h : twiceN a <;> simp_all
        have hb : twiceN b = false := by cases h : twiceN b <;> simp_all
        rw [twiceN_not] at ha hb
        have l1 := miss_le (a := b) ha
        have l2 := miss_le (a := a) hb
        refine ⟨m, ha, hb, by omega, by omega, e, ?_⟩
        rw [if_neg h1, if_neg h2]
theorem mergeN_nil {a b : List Named} (h : (mergeN a b).2 ≠ 0) : (mergeN a b).1 = [] := by
  unfold mergeN at h ⊢
  split at h
  · rename_i h1; rw [if_pos h1]
  · rename_i h1
    rw [if_neg h1]
    split at h
    · rename_i h2; rw [if_pos h2]
    · rename_i h2
      rw [if_neg h2]
      split at h
      · rfl
      · simp at h
theorem carry_turn {o t : List Named} (h : carryN (turnL (allN o)) t = none) : carryN (turnL (allN t)) o = none := by
  cases h2 : carryN (turnL (allN t)) o with
  | none => rfl
  | some m =>
    exfalso
    obtain ⟨v, e⟩ := carryN_all.1 m h2
    have e2 := passL_turn' e
    rw [turnL_turnL] at e2
    rw [carryN_all.2 h] at e2
    cases e2
theorem merge_err (a b : List Named) : (mergeN a b).2 = (mergeN b a).2 := by
  unfold mergeN
  by_cases h1 : twiceN a = true ∨ twiceN b = true
  · have h1' : twiceN b = true ∨ twiceN a = true := h1.symm
    rw [if_pos h1, if_pos h1']
  · have h1' : ¬ (twiceN b = true ∨ twiceN a = true) := fun h => h1 h.symm
    rw [if_neg h1, if_neg h1']
    by_cases h2 : (partN a (missN b a)).2.length > (missN b a).length ∨ (partN b (missN a b)).2.length > (missN a b).length
    · have h2' : (partN b (missN a b)).2.length > (missN a b).length ∨ (partN a (missN b a)).2.length > (missN b a).length := h2.symm
      rw [if_pos h2, if_pos h2']
    · have h2' : ¬ ((partN b (missN a b)).2.length > (missN a b).length ∨ (partN a (missN b a)).2.length > (missN b a).length) := fun h => h2 h.symm
      rw [if_neg h2, if_neg h2']
      cases e1 : carryN (turnL (allN (partN a (missN b a)).2)) (partN b (missN a b)).2 with
      | none => rw [carry_turn e1]
      | some m =>
        cases e2 : carryN (turnL (allN (partN b (missN a b)).2)) (partN a (missN b a)).2 with
        | none => rw [carry_turn e2] at e1; cases e1
        | some m' => rfl
theorem merge_run {a b : List Named} {r : List File} (h : (mergeN a b).2 = 0) (hc : runL [] (allN (partN a (missN b a)).1) = (r, 0)) (hd : runL [] (allN (partN b (missN a b)).1) = (r, 0)) (ha : (runL [] (allN a)).2 = 0) (hb : (runL [] (allN b)).2 = 0) :
    runL [] (allN (mergeN a b).1) = runL [] (allN (mergeN b a).1) := by
  obtain ⟨mx, _, _, _, _, c1, e1⟩ := mergeN_ok h
  have h' := h
  rw [merge_err] at h'
  obtain ⟨my, _, _, _, _, c2, e2⟩ := mergeN_ok h'
  rw [e1, e2]
  simp only
  obtain ⟨v, p1⟩ := carryN_all.1 _ c1
  obtain ⟨v', p2⟩ := carryN_all.1 _ c2
  have p3 := passL_turn' p1
  rw [turnL_turnL, p2] at p3
  simp only [Option.some.injEq, Prod.mk.injEq] at p3
  have s0 : Srt [] := by simp [Srt]
  have sr : Srt r := by have := runL_srt (l := allN (partN a (missN b a)).1) s0 (by rw [hc]); rw [hc] at this; exact this
  have ra := part_run (ids := missN b a) s0 ha
  have rb := part_run (ids := missN a b) s0 hb
  rw [allN_append, runL_app (by rw [hc]), hc] at ra
  rw [allN_append, runL_app (by rw [hd]), hd] at rb
  simp only at ra rb
  have o1 : (runL r (allN (partN a (missN b a)).2)).2 = 0 := by rw [ra]; exact ha
  have o2 : (runL r (allN (partN b (missN a b)).2)).2 = 0 := by rw [rb]; exact hb
  have t1 := run_turn sr o1
  have st1 := runL_srt sr o1
  rw [ra] at t1 st1
  have u1 : runL (runL [] (allN a)).1 (turnL (allN (partN a (missN b a)).2) ++ allN (partN b (missN a b)).2) = runL [] (allN b) := by
    rw [runL_app (by rw [t1]), t1]
    exact rb
  have u2 := passL_same st1 (by rw [u1]; exact hb) p1
  rw [u1] at u2
  have o3 : (runL (runL [] (allN a)).1 (allN mx ++ v)).2 = 0 := by rw [u2]; exact hb
  obtain ⟨o4, o5⟩ := runL_ok.1 o3
  rw [runL_app o4] at u2
  have t3 := run_turn (runL_srt st1 o4) o5
  rw [u2] at t3
  rw [allN_append, allN_append, runL_app ha, runL_app hb, p3.1, t3]
  exact Prod.ext rfl o4
theorem merge_zero {a b : List Named} {r : List File} (h : (mergeN a b).2 = 0) (hc : runL [] (allN (partN a (missN b a)).1) = (r, 0)) (hd : runL [] (allN (partN b (missN a b)).1) = (r, 0)) (ha : (runL [] (allN a)).2 = 0) (hb : (runL [] (allN b)).2 = 0) :
    (runL [] (allN (mergeN a b).1)).2 = 0 := by
  obtain ⟨mx, _, _, _, _, c1, e1⟩ := mergeN_ok h
  rw [e1]
  simp only
  obtain ⟨v, p1⟩ := carryN_all.1 _ c1
  have s0 : Srt [] := by simp [Srt]
  have sr : Srt r := by have := runL_srt (l := allN (partN a (missN b a)).1) s0 (by rw [hc]); rw [hc] at this; exact this
  have ra := part_run (ids := missN b a) s0 ha
  have rb := part_run (ids := missN a b) s0 hb
  rw [allN_append, runL_app (by rw [hc]), hc] at ra
  rw [allN_append, runL_app (by rw [hd]), hd] at rb
  simp only at ra rb
  have o1 : (runL r (allN (partN a (missN b a)).2)).2 = 0 := by rw [ra]; exact ha
  have t1 := run_turn sr o1
  have st1 := runL_srt sr o1
  rw [ra] at t1 st1
  have u1 : runL (runL [] (allN a)).1 (turnL (allN (partN a (missN b a)).2) ++ allN (partN b (missN a b)).2) = runL [] (allN b) := by
    rw [runL_app (by rw [t1]), t1]
    exact rb
  have u2 := passL_same st1 (by rw [u1]; exact hb) p1
  have o3 : (runL (runL [] (allN a)).1 (allN mx ++ v)).2 = 0 := by rw [u2, u1]; exact hb
  rw [allN_append, runL_app ha]
  exact (runL_ok.1 o3).1
/-! ### Of the same, and of nothing -/
theorem missN_self {a b : List Named} (h : ∀ x ∈ idsN b, x ∈ idsN a) : missN a b = [] := by
  rw [List.eq_nil_iff_forall_not_mem]
  intro x hx
  obtain ⟨h1, h2⟩ := missN_mem.1 hx
  exact h2 (h x h1)
theorem part_nil (l : List Named) : partN l [] = (l, []) := part_none fun p _ => rfl
theorem part_take_drop {l : List Named} {n : Nat} (hn : (idsN l).Nodup) : partN l (idsN (l.drop n)) = (l.take n, l.drop n) := by
  have h1 : ∀ p ∈ l.take n, inIds (idsN (l.drop n)) p = false := fun p hp => by
    cases h : inIds (idsN (l.drop n)) p with
    | false => rfl
    | true =>
      exfalso
      have h2 := inIds_iff.1 h
      rw [← List.take_append_drop n l, idsN_append, List.nodup_append] at hn
      exact hn.2.2 p.id (List.mem_map.2 ⟨p, hp, rfl⟩) p.id h2 rfl
  have key : ∀ (m s b : List Named) (ids : List Id), (∀ p ∈ m, inIds ids p = true) → m.foldl (partS ids) (s, b) = (s, b ++ m) := by
    intro m
    induction m with
    | nil => intro s b ids _; simp
    | cons p m ih =>
      intro s b ids h
      rw [List.foldl_cons, show partS ids (s, b) p = (s, b ++ [p]) by simp [partS, h p (by simp)], ih s (b ++ [p]) ids fun x hx => h x (by simp [hx])]
      simp
  have h2 := part_none h1
  conv => lhs; rw [partN]; arg 3; rw [← List.take_append_drop n l]
  rw [List.foldl_append]
  rw [partN] at h2
  rw [h2, key (l.drop n) (l.take n) [] (idsN (l.drop n)) (fun p hp => inIds_iff.2 (List.mem_map.2 ⟨p, hp, rfl⟩))]
  simp
theorem missN_take {l : List Named} {n : Nat} (hn : (idsN l).Nodup) : missN (l.take n) l = idsN (l.drop n) := by
  rw [missN]
  conv => lhs; arg 2; rw [← List.take_append_drop n l, idsN_append]
  rw [List.filter_append]
  rw [← List.take_append_drop n l, idsN_append, List.nodup_append] at hn
  have e1 : (idsN (l.take n)).filter (fun x => !hasI (l.take n) x) = [] := by
    rw [List.filter_eq_nil_iff]
    intro x hx
    simp [hasI_iff.2 hx]
  have e2 : (idsN (l.drop n)).filter (fun x => !hasI (l.take n) x) = idsN (l.drop n) := by
    rw [List.filter_eq_self]
    intro x hx
    have : hasI (l.take n) x = false := hasI_not.2 fun h => hn.2.2 x h x hx rfl
    simp [this]
  rw [e1, e2]; rfl
theorem carry_nil (l : List Named) : carryN [] l = some l := by
  induction l with
  | nil => rfl
  | cons p l ih => exact carryN_cons.2 ⟨p.l, [], l, (passL_nl p.l).2 ⟨rfl, rfl⟩, ih, rfl⟩
theorem merge_self {a : List Named} (h : twiceN a = false) : mergeN a a = (a, 0) := by
  have e : missN a a = [] := missN_self fun x h => h
  rw [mergeN, h, e, part_nil]
  simp [carryN]
theorem merge_none {a : List Named} (h : twiceN a = false) : mergeN a [] = (a, 0) := by
  have e1 : missN a [] = [] := rfl
  have e2 : missN [] a = idsN a := by
    rw [missN, List.filter_eq_self]
    intro x _; rfl
  have e3 : partN a (idsN a) = ([], a) := by
    have := part_take_drop (l := a) (n := 0) (twiceN_not.1 h)
    simpa using this
  have e4 : twiceN [] = false := rfl
  rw [mergeN, h, e1, e2, e3, e4, part_nil]
  simp [carryN, idsN]
theorem merge_take {a : List Named} {n : Nat} (h : twiceN a = false) : mergeN a (a.take n) = (a, 0) ∧ mergeN (a.take n) a = (a, 0) := by
  have hn := twiceN_not.1 h
  have ht : twiceN (a.take n) = false := by
    rw [twiceN_not]
    rw [← List.take_append_drop n a, idsN_append, List.nodup_append] at hn
    exact hn.1
  have e1 : missN a (a.take n) = [] := missN_self fun x hx => by
    rw [← List.take_append_drop n a, idsN_append]
    exact List.mem_append_left _ hx
  constructor
  · rw [mergeN, h, ht, e1, missN_take hn, part_take_drop hn, part_nil]
    simp [carryN, idsN]
  · rw [mergeN, h, ht, e1, missN_take hn, part_take_drop hn, part_nil]
    have e5 : turnL (allN []) = [] := rfl
    simp [e5, carry_nil, idsN]
theorem merge_len {a b : List Named} (h : (mergeN a b).2 = 0) : (mergeN a b).1.length = a.length + (missN a b).length := by
  obtain ⟨m, _, _, _, l2, c, e⟩ := mergeN_ok h
  rw [e]
  simp only [List.length_append]
  rw [(carryN_like c).1, l2]
theorem merge_has {a b : List Named} (h : (mergeN a b).2 = 0) : ∀ x ∈ idsN b, x ∈ idsN (mergeN a b).1 := by
  obtain ⟨m, _, _, _, l2, c, e⟩ := mergeN_ok h
  rw [e]
  intro x hx
  simp only [idsN_append, List.mem_append]
  by_cases ha : x ∈ idsN a
  · exact .inl ha
  · right
    obtain ⟨k1, k2⟩ := carryN_like c
    rw [ids_same k1 k2]
    obtain ⟨p, hp, rfl⟩ := List.mem_map.1 hx
    exact part_has hp (inIds_iff.2 (missN_mem.2 ⟨hx, ha⟩))
theorem merge_again {a b : List Named} (h : (mergeN a b).2 = 0) (h2 : (mergeN (mergeN a b).1 b).2 = 0) : (mergeN (mergeN a b).1 b).1.length = (mergeN a b).1.length := by
  rw [merge_len h2, missN_self (merge_has h)]
  simp
end Go.Qm

/- What parting keeps. -/
namespace Go.Qm
open Go.RowKit Go.Vam
set_option linter.unusedSimpArgs false
set_option linter.unusedVariables false
theorem partN_keep {K : Named → Prop} (hK : ∀ p q x y, K p → K q → passN p q = some (x, y) → K x ∧ K y) {ids : List Id} {l : List Named} (kl : ∀ p ∈ l, K p) : (∀ x ∈ (partN l ids).1, K x) ∧ ∀ x ∈ (partN l ids).2, K x := by
  have step : ∀ (s : List Named × List Named) (p : Named), (∀ x ∈ s.1, K x) → (∀ x ∈ s.2, K x) → K p → (∀ x ∈ (partS ids s p).1, K x) ∧ ∀ x ∈ (partS ids s p).2, K x := by
    intro s p h1 h2 hp
    have hb : ∀ x ∈ s.2 ++ [p], K x := fun x hx => by
      rcases List.mem_append.1 hx with h | h
      · exact h2 x h
      · simp only [List.mem_singleton] at h; subst h; exact hp
    unfold partS
    split
    · exact ⟨h1, hb⟩
    · split
      · rename_i x m e
        obtain ⟨k1, k2⟩ := overN_keep hK e h2 hp
        refine ⟨fun z hz => ?_, k2⟩
        rcases List.mem_append.1 hz with h | h
        · exact h1 z h
        · simp only [List.mem_singleton] at h; subst h; exact k1
      · exact ⟨h1, hb⟩
  have key : ∀ (l : List Named) (s : List Named × List Named), (∀ x ∈ s.1, K x) → (∀ x ∈ s.2, K x) → (∀ p ∈ l, K p) → (∀ x ∈ (l.foldl (partS ids) s).1, K x) ∧ ∀ x ∈ (l.foldl (partS ids) s).2, K x := by
    intro l
    induction l with
    | nil => intro s h1 h2 _; exact ⟨h1, h2⟩
    | cons p l ih =>
      intro s h1 h2 h3
      obtain ⟨k1, k2⟩ := step s p h1 h2 (h3 p (by simp))
      exact ih _ k1 k2 fun x hx => h3 x (by simp [hx])
  exact key l ([], []) (by simp) (by simp) kl
theorem short_passN {n : Nat} (p q x y : Named) (hp : p.l.length ≤ n) (hq : q.l.length ≤ n) (h : passN p q = some (x, y)) : x.l.length ≤ n ∧ y.l.length ≤ n := by
  obtain ⟨_, _, _, k1, _, _, _, k2⟩ := passN_same h
  exact ⟨by omega, by omega⟩
end Go.Qm
