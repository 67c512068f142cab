/- An abstract machine over data (part 1): cells of data that nobody writes any more, abstract values, boxes, and what they say of a world. -/
import Derived.Orders
import Derived.Below
import Derived.OwnWalk
import Derived.Laws.AppendOwn
import Derived.Laws.OwnMore
import Derived.Laws.Cells
import Derived.Laws.StructEq
import Derived.Laws.Small
import Derived.RangeFuncOwn
import Derived.RangeFuncIn
import Derived.OrdersIn
import Derived.TacticsIn
import Derived.Sort.LoopGhostIn
set_option linter.unusedSimpArgs false
set_option linter.unusedVariables false
namespace Go.Vam
open Go.RowKit

/-! ### 1. Cells of data -/
/-- One cell of data: a scalar; a slice of rows of cells; a function with what it has captured. -/
inductive C where
  | sc (v : Value)
  | sl (rows : List (List C))
  | fn (g : FuncId) (caps : List (List C))

/-- The cells that nobody writes any more. -/
abbrev Zone := Addr → Prop

def isSc : Value → Bool
  | .bool _ | .int _ _ | .string _ => true
  | .slice none 0 0 => true
  | _ => false

inductive CR (Z : Zone) (w : World) : C → Value → Prop
  | sc (v : Value) (h : isSc v = true) : CR Z w (.sc v) v
  | sl (rows : List (List C)) (A : Option Addr) (cap sz : Nat) (vals : Nat → Nat → Value)
      (hcap : rows.length ≤ cap) (hmax : rows.length ≤ 9223372036854775807)
      (hA : 0 < rows.length → A.isSome = true)
      (hrow : ∀ (j : Nat) (row : List C), rows[j]? = some row → row.length = sz)
      (hcell : ∀ (ad : Addr), A = some ad → ∀ (j : Nat), j < rows.length → ∀ (i : Nat), i < sz → Z (ad.add (j * sz + i)) ∧ w.cell? (ad.add (j * sz + i)) = some (vals j i))
      (hval : ∀ (j : Nat) (row : List C) (i : Nat) (c : C), rows[j]? = some row → row[i]? = some c → CR Z w c (vals j i)) :
      CR Z w (.sl rows) (.slice A rows.length cap)
  | fn (g : FuncId) (caps : List (List C)) (ps : List Addr) (vals : Nat → Nat → Value)
      (hl : ps.length = caps.length)
      (hcell : ∀ (k : Nat) (ad : Addr) (cs : List C), ps[k]? = some ad → caps[k]? = some cs → ∀ (i : Nat), i < cs.length → Z (ad.add i) ∧ w.cell? (ad.add i) = some (vals k i))
      (hval : ∀ (k : Nat) (cs : List C) (i : Nat) (c : C), caps[k]? = some cs → cs[i]? = some c → CR Z w c (vals k i)) :
      CR Z w (.fn g caps) (.func (.func g) #[] (ps.map fun a => Value.pointer (some a)).toArray)

/-- From one world to another one: what was laid aside is as it was. -/
structure Ext (Z Z' : Zone) (w w' : World) : Prop where
  sub : ∀ a, Z a → Z' a
  same : ∀ a, Z a → w'.cell? a = w.cell? a
theorem Ext.refl (Z : Zone) (w : World) : Ext Z Z w w := ⟨fun _ h => h, fun _ _ => rfl⟩
theorem Ext.trans {Z Z' Z'' : Zone} {w w' w'' : World} (h : Ext Z Z' w w') (k : Ext Z' Z'' w' w'') : Ext Z Z'' w w'' :=
  ⟨fun a ha => k.sub a (h.sub a ha), fun a ha => (k.same a (h.sub a ha)).trans (h.same a ha)⟩

theorem CR.ext {Z Z' : Zone} {w w' : World} (he : Ext Z Z' w w') {c : C} {v : Value} (h : CR Z w c v) : CR Z' w' c v := by
  induction h with
  | sc v h => exact .sc v h
  | sl rows A cap sz vals hcap hmax hA hrow hcell hval ih =>
    refine .sl rows A cap sz vals hcap hmax hA hrow (fun ad e j hj i hi => ?_) ih
    obtain ⟨hz, hc⟩ := hcell ad e j hj i hi
    exact ⟨he.sub _ hz, (he.same _ hz).trans hc⟩
  | fn g caps ps vals hl hcell hval ih =>
    refine .fn g caps ps vals hl (fun k ad cs e1 e2 i hi => ?_) ih
    obtain ⟨hz, hc⟩ := hcell k ad cs e1 e2 i hi
    exact ⟨he.sub _ hz, (he.same _ hz).trans hc⟩
theorem CR.one {Z : Zone} {w : World} {c : C} {v : Value} (h : CR Z w c v) : v.oneCell' = true := by
  cases h with
  | sc v h => unfold isSc at h; split at h <;> first | rfl | simp at h
  | sl => rfl
  | fn => rfl

/-! ### 2. Abstract values -/
inductive AV where
  | any
  | und
  | c (x : C)
  | agg (cs : List C)
  | pt (cs : List C)
  | ptr (b off : Nat)
  | own (b : Nat)
  | optr (b off : Nat)
  | osl (b i sz : Nat)
  | nil
  | tup (xs : List AV)
  | clo (g : FuncId) (first caps : List AV)
  | yld (b : Nat)
/-- What the temporaries hold, as far as it is known, the newest first. -/
def look : List (Nat × AV) → Nat → AV
  | [], _ => .any
  | (t, x) :: l, n => if t = n then x else look l n

inductive AR (Z : Zone) (w : World) (β : Nat → Value) (cr : Nat → Prop) : AV → Value → Prop
  | any (v : Value) : AR Z w β cr .any v
  | und : AR Z w β cr .und undef
  | c (x : C) (v : Value) (h : CR Z w x v) : AR Z w β cr (.c x) v
  | agg (cs : List C) (vs : Array Value) (hl : vs.size = cs.length)
      (h : ∀ (i : Nat) (c : C) (v : Value), cs[i]? = some c → vs[i]? = some v → CR Z w c v) : AR Z w β cr (.agg cs) (.agg vs)
  | pt (cs : List C) (a : Addr) (vals : Nat → Value)
      (hc : ∀ (i : Nat), i < cs.length → Z (a.add i) ∧ w.cell? (a.add i) = some (vals i))
      (hv : ∀ (i : Nat) (c : C), cs[i]? = some c → CR Z w c (vals i)) : AR Z w β cr (.pt cs) (.pointer (some a))
  | ptr (b off g : Nat) (hb : cr b) (h : β b = .pointer (some ⟨g, 0, none⟩)) : AR Z w β cr (.ptr b off) (.pointer (some ⟨g, off, none⟩))
  | own (b : Nat) (hb : cr b) : AR Z w β cr (.own b) (β b)
  | optr (b off g n cap : Nat) (hb : cr b) (h : β b = .slice (some ⟨g, 0, none⟩) n cap) : AR Z w β cr (.optr b off) (.pointer (some ⟨g, off, none⟩))
  | osl (b i sz g n cap : Nat) (hb : cr b) (hi : i < n) (h : β b = .slice (some ⟨g, 0, none⟩) n cap) : AR Z w β cr (.osl b i sz) (.slice (some ⟨g, i * sz, none⟩) (n - i) (cap - i))
  | nil : AR Z w β cr .nil (.slice none 0 0)
  | tup (xs : List AV) (vs : Array Value) (hl : vs.size = xs.length)
      (h : ∀ (i : Nat) (x : AV) (v : Value), xs[i]? = some x → vs[i]? = some v → AR Z w β cr x v) : AR Z w β cr (.tup xs) (.tuple vs)
  | clo (g : FuncId) (first caps : List AV) (fs cs : Array Value) (hl : fs.size = first.length) (hl' : cs.size = caps.length)
      (h : ∀ (i : Nat) (x : AV) (v : Value), first[i]? = some x → fs[i]? = some v → AR Z w β cr x v)
      (h' : ∀ (i : Nat) (x : AV) (v : Value), caps[i]? = some x → cs[i]? = some v → AR Z w β cr x v) : AR Z w β cr (.clo g first caps) (.func (.func g) fs cs)
  | yld (b g : Nat) (hb : cr b) (h : β b = .pointer (some ⟨g, 0, none⟩)) : AR Z w β cr (.yld b) (.func (.yield g) #[] #[])

theorem AR.ext {Z Z' : Zone} {w w' : World} {β β' : Nat → Value} {cr cr' : Nat → Prop} (he : Ext Z Z' w w') (hb : ∀ b, cr b → cr' b ∧ β' b = β b) {x : AV} {v : Value}
    (h : AR Z w β cr x v) : AR Z' w' β' cr' x v := by
  induction h with
  | any v => exact .any v
  | und => exact .und
  | c x v h => exact .c x v (h.ext he)
  | agg cs vs hl h => exact .agg cs vs hl fun i c v h1 h2 => (h i c v h1 h2).ext he
  | pt cs a vals hc hv => exact .pt cs a vals (fun i hi => ⟨he.sub _ (hc i hi).1, (he.same _ (hc i hi).1).trans (hc i hi).2⟩) fun i c h1 => (hv i c h1).ext he
  | ptr b off g hb' h => exact .ptr b off g (hb b hb').1 ((hb b hb').2.trans h)
  | own b hb' =>
    rw [← (hb b hb').2]
    exact .own b (hb b hb').1
  | optr b off g n cap hb' h => exact .optr b off g n cap (hb b hb').1 ((hb b hb').2.trans h)
  | osl b i sz g n cap hb' hi h => exact .osl b i sz g n cap (hb b hb').1 hi ((hb b hb').2.trans h)
  | nil => exact .nil
  | tup xs vs hl h ih => exact .tup xs vs hl ih
  | clo g first caps fs cs hl hl' h h' ih ih' => exact .clo g first caps fs cs hl hl' ih ih'
  | yld b g hb' h => exact .yld b g (hb b hb').1 ((hb b hb').2.trans h)

/-! ### 3. Boxes -/
inductive Bx where
  | cells (cs : List AV)
  | rows (e sz : Nat) (rs : List (List C))
  | lp (nt : Nat) (tm : List (Nat × AV)) (ps : List Nat) (assign body : Code) (st : LoopState) (pend : Option Code)
  | mp (ks : List (Int × Int))
/-- A key of a map: a struct of two ints. -/
def keyV (k : Int × Int) : Value := .agg #[.int .i64 k.1, .int .i64 k.2]
def Bx.isLp : Bx → Bool
  | .lp _ _ _ _ _ _ _ => true
  | .mp _ => true
  | _ => false

def blk : Value → Option Nat
  | .pointer (some a) => some a.block
  | .slice (some a) _ _ => some a.block
  | .map (some g) => some g
  | _ => none

inductive BoxR (base : Nat) (Z : Zone) (w : World) (β : Nat → Value) (cr : Nat → Prop) (fz : Nat → Prop) (b : Nat) : Bx → Prop
  | cells (cs : List AV) (g : Nat) (arr : Array Value) (t : TypeId) (hv : β b = .pointer (some ⟨g, 0, none⟩)) (hg : base ≤ g)
      (hh : w.heap[g]? = some (.cells arr t (0, 0))) (hl : arr.size = cs.length)
      (hc : ∀ (i : Nat) (x : AV) (v : Value), cs[i]? = some x → arr[i]? = some v → AR Z w β cr x v)
      (hz : ¬ fz b → ∀ a, Z a → a.block ≠ g) : BoxR base Z w β cr fz b (.cells cs)
  | rows (e sz : Nat) (rs : List (List C)) (inner : List Value) (ho : w.ownsRow base e sz (β b) rs.length inner)
      (hr : ∀ (j : Nat) (row : List C), rs[j]? = some row → row.length = sz)
      (hc : ∀ (j : Nat) (row : List C) (i : Nat) (c : C) (v : Value), rs[j]? = some row → row[i]? = some c → inner[j * sz + i]? = some v → CR Z w c v)
      (ht : ∀ g, (β b).ownBlock = some g → ∀ a, Z a → a.block = g → a.off < rs.length * sz)
      (hz : ¬ fz b → ∀ g, (β b).ownBlock = some g → ∀ a, Z a → a.block ≠ g) : BoxR base Z w β cr fz b (.rows e sz rs)
  | lp (nt : Nat) (tm : List (Nat × AV)) (ps : List Nat) (assign body : Code) (st : LoopState) (pend : Option Code) (g : Nat) (rec : Loop) (hv : β b = .pointer (some ⟨g, 0, none⟩)) (hg : base ≤ g)
      (hh : w.heap[g]? = some (.loop rec)) (hps : rec.params.toList = ps) (has : rec.assign = assign) (hbd : rec.body = body) (hst : rec.state = st) (hpd : rec.pending = pend) (hsz : rec.tmps.size = nt)
      (hc : ∀ (t : Nat), AR Z w β cr (look tm t) (rec.tmps.getD t undef))
      (hz : ∀ a, Z a → a.block ≠ g) : BoxR base Z w β cr fz b (.lp nt tm ps assign body st pend)
  | mp (ks : List (Int × Int)) (g : Nat) (es : Array MapEntry) (clock : Nat) (hv : β b = .map (some g)) (hg : base ≤ g)
      (hh : w.heap[g]? = some (.map es clock)) (hk : es.toList.map (fun e => (e.key, e.val)) = ks.map fun k => (keyV k, .bool true))
      (hz : ∀ a, Z a → a.block ≠ g) : BoxR base Z w β cr fz b (.mp ks)

theorem blk_ownBlock (v : Value) (g : Nat) (h : v.ownBlock = some g) : blk v = some g := by
  cases v <;> simp [Value.ownBlock] at h
  case slice a n c => cases a <;> simp_all [blk]

/-- The world, as the abstract machine sees it. -/
structure WR (base : Nat) (w0 : World) (Z : Zone) (β : Nat → Value) (cr lv fz : Nat → Prop) (bx : Nat → Option Bx) (w : World) : Prop where
  below : Below base w0 w
  hbase : base ≤ w.heap.size
  zin : ∀ a, Z a → a.block < w.heap.size
  zsp : ∀ a, Z a → a.spot = none
  box : ∀ b, lv b → ∃ x, bx b = some x ∧ BoxR base Z w β cr fz b x
  dis : ∀ b b' g, lv b → lv b' → b ≠ b' → blk (β b) = some g → blk (β b') ≠ some g
  sub : ∀ b, lv b → cr b
  oth : KeepsOthers w0 w

theorem World.cell?_lt {w : World} {a : Addr} {v : Value} (h : w.cell? a = some v) : a.block < w.heap.size := World.block_lt_of_cell? w a h

/-- Old blocks are as they were: what was laid aside is so, too. -/
theorem ext_of_grown {Z : Zone} {w w' : World} {row : Option Nat} (hg : w.grownBy w' row) (hz : ∀ a, Z a → a.block < w.heap.size) (hr : ∀ a, Z a → some a.block ≠ row) : Ext Z Z w w' :=
  ⟨fun _ h => h, fun a ha => World.cell?_of_block (hg.block a.block (hz a ha) (hr a ha))⟩
theorem ext_of_below {Z : Zone} {w w' : World} (hb : Below w.heap.size w w') (hz : ∀ a, Z a → a.block < w.heap.size) : Ext Z Z w w' :=
  ⟨fun _ h => h, fun a ha => World.cell?_of_block (hb.block a.block (hz a ha))⟩

theorem BoxR.blk_base {base : Nat} {Z : Zone} {w : World} {β : Nat → Value} {cr fz : Nat → Prop} {b : Nat} {x : Bx} (h : BoxR base Z w β cr fz b x) {g : Nat} (hg : blk (β b) = some g) : base ≤ g ∧ g < w.heap.size := by
  cases h with
  | cells cs g' arr t hv hg' hh hl hc hz =>
    rw [hv] at hg
    simp only [blk, Option.some.injEq] at hg
    subst hg
    exact ⟨hg', (Array.getElem?_eq_some_iff.1 hh).1⟩
  | rows e sz rs inner ho hr hc ht hz =>
    rcases ho.2 with ⟨hv, _⟩ | ⟨g', cap, cur, hv, hb, hh, _⟩
    · rw [hv] at hg
      simp [blk] at hg
    · rw [hv] at hg
      simp only [blk, Option.some.injEq] at hg
      subst hg
      exact ⟨hb, (Array.getElem?_eq_some_iff.1 hh).1⟩
  | lp nt tm ps assign body st pend g' rec hv hg' hh =>
    rw [hv] at hg
    simp only [blk, Option.some.injEq] at hg
    subst hg
    exact ⟨hg', (Array.getElem?_eq_some_iff.1 hh).1⟩
  | mp ks g' es clock hv hg' hh =>
    rw [hv] at hg
    simp only [blk, Option.some.injEq] at hg
    subst hg
    exact ⟨hg', (Array.getElem?_eq_some_iff.1 hh).1⟩
theorem BoxR.isCells {base : Nat} {Z : Zone} {w : World} {β : Nat → Value} {cr fz : Nat → Prop} {b : Nat} {x : Bx} (h : BoxR base Z w β cr fz b x) (hnl : x.isLp = false) {g : Nat} (hg : blk (β b) = some g) : ∀ o, w.heap[g]? = some o → o.isCells = true := by
  cases h with
  | cells cs g' arr t hv hg' hh hl hc hz =>
    rw [hv] at hg
    simp only [blk, Option.some.injEq] at hg
    subst hg
    intro o ho
    rw [hh] at ho
    injection ho with ho
    subst ho
    rfl
  | rows e sz rs inner ho hr hc ht hz =>
    rcases ho.2 with ⟨hv, _⟩ | ⟨g', cap, cur, hv, hb, hh, _⟩
    · rw [hv] at hg
      simp [blk] at hg
    · rw [hv] at hg
      simp only [blk, Option.some.injEq] at hg
      subst hg
      intro o ho
      rw [hh] at ho
      injection ho with ho
      subst ho
      rfl
  | lp => simp [Bx.isLp] at hnl
  | mp => simp [Bx.isLp] at hnl
theorem _root_.Go.KeepsOthers.of_below {w w' : World} (h : Below w.heap.size w w') : KeepsOthers w w' :=
  ⟨h.size, fun k o hk _ => (h.block k (Array.getElem?_eq_some_iff.1 hk).1).trans hk⟩
/-- A box whose block has not been written, in a later world. -/
theorem BoxR.ext {base : Nat} {Z Z' : Zone} {w w' : World} {β β' : Nat → Value} {cr cr' fz fz' : Nat → Prop} {b : Nat} {x : Bx} (h : BoxR base Z w β cr fz b x)
    (he : Ext Z Z' w w') (hb : ∀ b, cr b → cr' b ∧ β' b = β b) (hcb : cr b) (hblk : ∀ g, blk (β b) = some g → w'.heap[g]? = w.heap[g]?)
    (hf : ∀ g, blk (β b) = some g → ∀ a, Z' a → a.block = g → Z a ∨ fz' b ∧ x.isLp = false ∧ ∀ e sz rs, x = .rows e sz rs → a.off < rs.length * sz) (hff : fz b → fz' b) : BoxR base Z' w' β' cr' fz' b x := by
  have hbb := (hb b hcb).2
  cases h with
  | cells cs g arr t hv hg hh hl hc hz =>
    have e1 : blk (β b) = some g := by rw [hv]; rfl
    refine .cells cs g arr t (hbb.trans hv) hg ((hblk g e1).trans hh) hl (fun i x v h1 h2 => (hc i x v h1 h2).ext he hb) (fun hn a ha e => ?_)
    rcases hf g e1 a ha e with h | h
    · exact hz (fun hfb => hn (hff hfb)) a h e
    · exact hn h.1
  | rows e sz rs inner ho hr hc ht hz =>
    have ho' : w'.ownsRow base e sz (β' b) rs.length inner := by
      rw [hbb]
      refine ⟨ho.1, ?_⟩
      rcases ho.2 with h | ⟨g, cap, cur, hv, hbs, hh, hrest⟩
      · exact .inl h
      · refine .inr ⟨g, cap, cur, hv, hbs, (hblk g (by rw [hv]; rfl)).trans hh, hrest⟩
    refine .rows e sz rs inner ho' hr (fun j row i c v h1 h2 h3 => (hc j row i c v h1 h2 h3).ext he) (fun g hg a ha e1 => ?_) (fun hn g hg a ha e1 => ?_)
    · rw [hbb] at hg
      rcases hf g (blk_ownBlock _ _ hg) a ha e1 with h | h
      · exact ht g hg a h e1
      · exact h.2.2 _ _ _ rfl
    · rw [hbb] at hg
      rcases hf g (blk_ownBlock _ _ hg) a ha e1 with h | h
      · exact hz (fun hfb => hn (hff hfb)) g hg a h e1
      · exact hn h.1
  | lp nt tm ps assign body st pend g rec hv hg hh hps has hbd hst hpd hsz hc hz =>
    have e1 : blk (β b) = some g := by rw [hv]; rfl
    refine .lp nt tm ps assign body st pend g rec (hbb.trans hv) hg ((hblk g e1).trans hh) hps has hbd hst hpd hsz (fun t => (hc t).ext he hb) (fun a ha e => ?_)
    rcases hf g e1 a ha e with h | h
    · exact hz a h e
    · have := h.2.1; simp [Bx.isLp] at this
  | mp ks g es clock hv hg hh hk hz =>
    have e1 : blk (β b) = some g := by rw [hv]; rfl
    refine .mp ks g es clock (hbb.trans hv) hg ((hblk g e1).trans hh) hk (fun a ha e => ?_)
    rcases hf g e1 a ha e with h | h
    · exact hz a h e
    · have := h.2.1; simp [Bx.isLp] at this

/-- A step that leaves all old blocks of the boxes alone and lays no new box. -/
theorem WR.still {base : Nat} {w0 : World} {Z : Zone} {β : Nat → Value} {cr lv fz : Nat → Prop} {bx : Nat → Option Bx} {w w' : World} (h : WR base w0 Z β cr lv fz bx w)
    (hb : Below w.heap.size w w') : WR base w0 Z β cr lv fz bx w' := by
  have he := ext_of_below hb h.zin
  refine ⟨h.below.trans (hb.mono h.hbase), Nat.le_trans h.hbase hb.size, fun a ha => Nat.lt_of_lt_of_le (h.zin a ha) hb.size, h.zsp, fun b hl => ?_, h.dis, h.sub, h.oth.trans (.of_below hb)⟩
  obtain ⟨x, hx, hB⟩ := h.box b hl
  exact ⟨x, hx, hB.ext he (fun b h => ⟨h, rfl⟩) (h.sub b hl) (fun g hg => hb.block g (hB.blk_base hg).2) (fun g hg a ha e => .inl ha) id⟩
theorem AR.still {Z : Zone} {w w' : World} {β : Nat → Value} {cr : Nat → Prop} {x : AV} {v : Value} (h : AR Z w β cr x v) (hb : Below w.heap.size w w') (hz : ∀ a, Z a → a.block < w.heap.size) : AR Z w' β cr x v :=
  h.ext (ext_of_below hb hz) (fun _ h => ⟨h, rfl⟩)
end Go.Vam

/- An abstract machine over data (part 2): what one operation does, and that the machine does it. -/
namespace Go.Vam
open Go.RowKit

/-! ### 1. Types, as far as the machine asks -/
structure TyI where
  ag : Bool
  n : Nat
  bytes : Nat := 8
  sl : Option Nat := none
  fs : List (Nat × Nat × Nat × Bool) := []
  zero : List AV := []
  bl : Bool := false
  str : Bool := false
  ar : Option (Nat × Nat × Nat × Bool) := none

def descAg : TypeDesc → Bool
  | .struct _ => true
  | .array _ _ => true
  | _ => false
def isZeroOf : AV → Value → Bool
  | .c (.sc (.int k n)), .int k' n' => k == k' && n == n'
  | .c (.sc (.bool b)), .bool b' => b == b'
  | .c (.sc (.string s)), .string s' => s.size == 0 && s'.size == 0
  | .nil, .slice none 0 0 => true
  | .c (.sc (.slice none 0 0)), .slice none 0 0 => true
  | .any, _ => true
  | _, _ => false
def fieldsOk (P : Program) (fields : Array Field) (fs : List (Nat × Nat × Nat × Bool)) : Bool :=
  fs.length == fields.size && (List.range fs.length).all fun k => match fs[k]?, fields[k]? with
    | some (off, ty, n, ag), some f => f.offset == off && f.type == ty && (match P.info? ty, P.underlying ty with | some i, some d => i.size == n && (0 : Nat) < n && descAg d == ag | _, _ => false)
    | _, _ => false
def tyOk0 (P : Program) (t : TypeId) (i : TyI) : Bool :=
  match P.info? t, P.underlying t with
  | some inf, some d =>
    inf.size == i.n && inf.bytes == i.bytes && descAg d == i.ag &&
    (match i.sl, d with | none, _ => true | some e, .slice e' => e == e' | _, _ => false) && (match i.bl, d with | false, _ => true | true, .bool => true | _, _ => false) && (match i.str, d with | false, _ => true | true, .string => true | _, _ => false) &&
    (match i.fs, d with | [], _ => true | fs, .struct fields => fieldsOk P fields fs | _, _ => false) &&
    (match i.zero with | [] => true | zs => match inf.zero with
      | some z => z.cells.size == i.n && zs.length == i.n && (List.range zs.length).all fun k => match zs[k]?, z.cells[k]? with
        | some x, some v => isZeroOf x v && v.oneCell'
        | _, _ => false
      | none => false)
  | _, _ => false
/-- An array's things: their type, how many cells each takes, how many there are, whether each is a struct or an array. -/
def arOk (P : Program) (t : TypeId) (i : TyI) : Bool :=
  match i.ar with
  | none => true
  | some (e, sz, n, ag) => match P.underlying t, P.info? e, P.underlying e with
    | some (.array n' e'), some ie, some de => n' == n && e' == e && ie.size == sz && decide (0 < sz) && decide (2 ≤ n) && descAg de == ag
    | _, _, _ => false
def tyOk (P : Program) (t : TypeId) (i : TyI) : Bool := tyOk0 P t i && arOk P t i
abbrev TT := TypeId → Option TyI
def TOk (P : Program) (tt : TT) : Prop := ∀ t i, tt t = some i → tyOk P t i = true

theorem tyOk_spec {P : Program} {t : TypeId} {i : TyI} (h : tyOk P t i = true) :
    (∀ w, (isAgg t).run P w = .ok i.ag w) ∧ (∃ inf, P.info? t = some inf ∧ inf.size = i.n ∧ inf.bytes = i.bytes ∧
      (i.zero ≠ [] → ∃ z, inf.zero = some z ∧ z.cells.size = i.n ∧ i.zero.length = i.n ∧ ∀ (k : Nat) (x : AV) (v : Value), i.zero[k]? = some x → z.cells[k]? = some v → isZeroOf x v = true ∧ v.oneCell' = true)) ∧
    (∀ e, i.sl = some e → P.underlying t = some (.slice e)) ∧
    (∀ (k off ty n : Nat) (ag : Bool), i.fs[k]? = some (off, ty, n, ag) → ∃ (fields : Array Field) (f : Field), P.underlying t = some (.struct fields) ∧ fields[k]? = some f ∧ f.offset = off ∧ f.type = ty ∧ 0 < n ∧
      (∀ w, (sizeOf ty).run P w = .ok n w) ∧ (∀ w, (isAgg ty).run P w = .ok ag w)) := by
  replace h := (Bool.and_eq_true _ _ ▸ h : tyOk0 P t i = true ∧ arOk P t i = true).1
  unfold tyOk0 at h
  cases hi : P.info? t with
  | none => rw [hi] at h; simp at h
  | some inf =>
    cases hd : P.underlying t with
    | none => rw [hi, hd] at h; simp at h
    | some d =>
      rw [hi, hd] at h
      simp only [Bool.and_eq_true, beq_iff_eq] at h
      obtain ⟨⟨⟨⟨⟨⟨⟨h1, h2⟩, h3⟩, h4⟩, _⟩, _⟩, h5⟩, h6⟩ := h
      refine ⟨fun w => ?_, ⟨inf, rfl, h1, h2, fun hz => ?_⟩, fun e he => ?_, fun k off ty n ag hk => ?_⟩
      · have hu : (underlying t).run P w = .ok d w := by simp [underlying, hd]
        unfold isAgg
        simp only [Sem.run_bind, hu, Result.andThen_ok]
        cases d <;> simp_all [descAg]
      · cases hzz : i.zero with
        | nil => exact absurd hzz hz
        | cons x xs =>
          rw [hzz] at h6
          simp only at h6
          cases hz0 : inf.zero with
          | none => rw [hz0] at h6; simp at h6
          | some z =>
            rw [hz0] at h6
            simp only [Bool.and_eq_true, beq_iff_eq, List.all_eq_true, List.mem_range] at h6
            refine ⟨z, rfl, h6.1.1, h6.1.2, fun k x' v hx hv => ?_⟩
            have hk := (List.getElem?_eq_some_iff.1 hx).1
            have := h6.2 k hk
            rw [hx, hv] at this
            simpa using this
      · rw [he] at h4
        cases d <;> simp_all
      · cases hfs : i.fs with
        | nil => rw [hfs] at hk; simp at hk
        | cons x xs =>
          rw [hfs] at h5
          cases d with
          | struct fields =>
            simp only [fieldsOk, Bool.and_eq_true, beq_iff_eq, List.all_eq_true, List.mem_range] at h5
            rw [hfs] at hk
            have hlt := (List.getElem?_eq_some_iff.1 hk).1
            have := h5.2 k hlt
            rw [hk] at this
            cases hf : fields[k]? with
            | none => rw [hf] at this; simp at this
            | some f =>
              rw [hf] at this
              simp only [Bool.and_eq_true, beq_iff_eq] at this
              obtain ⟨⟨e1, e2⟩, e3⟩ := this
              cases hti : P.info? ty with
              | none => rw [hti] at e3; simp at e3
              | some ti =>
                cases htd : P.underlying ty with
                | none => rw [hti, htd] at e3; simp at e3
                | some td =>
                  rw [hti, htd] at e3
                  simp only [Bool.and_eq_true, beq_iff_eq, decide_eq_true_eq] at e3
                  obtain ⟨⟨s1, s2⟩, s3⟩ := e3
                  refine ⟨fields, f, rfl, hf, e1, e2, s2, fun w => ?_, fun w => ?_⟩
                  · simp [sizeOf, typeInfo, hti, s1]
                  · have hu : (underlying ty).run P w = .ok td w := by simp [underlying, htd]
                    unfold isAgg
                    simp only [Sem.run_bind, hu, Result.andThen_ok]
                    cases td <;> simp_all [descAg]
          | _ => simp at h5

theorem tyOk_ar {P : Program} {t : TypeId} {i : TyI} (h : tyOk P t i = true) {e sz n : Nat} {ag : Bool} (ha : i.ar = some (e, sz, n, ag)) :
    P.underlying t = some (.array n e) ∧ (∀ w, (sizeOf e).run P w = .ok sz w) ∧ (∀ w, (isAgg e).run P w = .ok ag w) ∧ 0 < sz ∧ 2 ≤ n := by
  replace h := (Bool.and_eq_true _ _ ▸ h : tyOk0 P t i = true ∧ arOk P t i = true).2
  unfold arOk at h
  rw [ha] at h
  simp only at h
  split at h
  · rename_i n' e' ie de h1 h2 h3
    simp only [Bool.and_eq_true, beq_iff_eq, decide_eq_true_eq] at h
    obtain ⟨⟨⟨⟨⟨rfl, rfl⟩, h4⟩, h5⟩, h6⟩, h7⟩ := h
    refine ⟨h1, fun w => by simp [sizeOf, typeInfo, h2, h4], fun w => ?_, h5, h6⟩
    have hu : (underlying e').run P w = .ok de w := by simp [underlying, h3]
    unfold isAgg
    simp only [Sem.run_bind, hu, Result.andThen_ok]
    cases de <;> simp_all [descAg]
  · simp at h

theorem tyOk_fields {P : Program} {t : TypeId} {i : TyI} (h : tyOk P t i = true) {k off ty n : Nat} {ag : Bool} (hk : i.fs[k]? = some (off, ty, n, ag)) :
    ∃ fields : Array Field, P.underlying t = some (.struct fields) ∧ fields.size = i.fs.length := by
  replace h := (Bool.and_eq_true _ _ ▸ h : tyOk0 P t i = true ∧ arOk P t i = true).1
  unfold tyOk0 at h
  cases hi : P.info? t with
  | none => rw [hi] at h; simp at h
  | some inf =>
    cases hd : P.underlying t with
    | none => rw [hi, hd] at h; simp at h
    | some d =>
      rw [hi, hd] at h
      simp only [Bool.and_eq_true, beq_iff_eq] at h
      obtain ⟨⟨_, h5⟩, _⟩ := h
      cases hfs : i.fs with
      | nil => rw [hfs] at hk; simp at hk
      | cons x xs =>
        rw [hfs] at h5
        cases d with
        | struct fields =>
          simp only [fieldsOk, Bool.and_eq_true, beq_iff_eq] at h5
          exact ⟨fields, rfl, h5.1.symm⟩
        | _ => simp at h5

theorem tyOk_bl {P : Program} {t : TypeId} {i : TyI} (h : tyOk P t i = true) (hb : i.bl = true) : P.underlying t = some .bool := by
  replace h := (Bool.and_eq_true _ _ ▸ h : tyOk0 P t i = true ∧ arOk P t i = true).1
  unfold tyOk0 at h
  cases hi : P.info? t with
  | none => rw [hi] at h; simp at h
  | some inf =>
    cases hd : P.underlying t with
    | none => rw [hi, hd] at h; simp at h
    | some d =>
      rw [hi, hd] at h
      simp only [Bool.and_eq_true, beq_iff_eq] at h
      obtain ⟨⟨⟨⟨_, h5⟩, _⟩, _⟩, _⟩ := h
      rw [hb] at h5
      cases d <;> simp_all
theorem tyOk_str {P : Program} {t : TypeId} {i : TyI} (h : tyOk P t i = true) (hb : i.str = true) : P.underlying t = some .string := by
  replace h := (Bool.and_eq_true _ _ ▸ h : tyOk0 P t i = true ∧ arOk P t i = true).1
  unfold tyOk0 at h
  cases hi : P.info? t with
  | none => rw [hi] at h; simp at h
  | some inf =>
    cases hd : P.underlying t with
    | none => rw [hi, hd] at h; simp at h
    | some d =>
      rw [hi, hd] at h
      simp only [Bool.and_eq_true, beq_iff_eq] at h
      obtain ⟨⟨⟨_, h5⟩, _⟩, _⟩ := h
      rw [hb] at h5
      cases d <;> simp_all

/-! ### 2. The abstract state's reading of operands -/
def nth : List AV → Nat → AV
  | [], _ => .any
  | x :: _, 0 => x
  | _ :: l, n + 1 => nth l n
theorem nth_eq (l : List AV) (n : Nat) : nth l n = (l[n]?).getD .any := by
  induction l generalizing n with
  | nil => rfl
  | cons x l ih => cases n <;> simp [nth, ih]
def cAV : Value → AV
  | .bool b => .c (.sc (.bool b))
  | .int k n => .c (.sc (.int k n))
  | .string s => .c (.sc (.string s))
  | .slice none 0 0 => .nil
  | _ => .any
def evA (tm : List AV) : Operand → AV
  | .tmp t => nth tm t
  | .const v => cAV v
  | .func f => .c (.fn f [])
  | .global _ => .any
theorem AR.cAV {Z : Zone} {w : World} {β : Nat → Value} {cr : Nat → Prop} (v : Value) : AR Z w β cr (cAV v) v := by
  unfold Vam.cAV
  split
  · exact .c _ _ (.sc _ rfl)
  · exact .c _ _ (.sc _ rfl)
  · exact .c _ _ (.sc _ rfl)
  · exact .nil
  · exact .any _
theorem CR.fn0 (Z : Zone) (w : World) (g : FuncId) : CR Z w (.fn g []) (.func (.func g) #[] #[]) :=
  .fn g [] [] (fun _ _ => undef) rfl (fun k ad cs e => by simp at e) (fun k cs i c e => by simp at e)
theorem AR.evA {Z : Zone} {w : World} {β : Nat → Value} {cr : Nat → Prop} {tm : List AV} {a : Act} (h : ∀ t x, tm[t]? = some x → AR Z w β cr x (a.tmps.getD t undef)) (x : Operand) : AR Z w β cr (evA tm x) (a.eval x) := by
  cases x with
  | tmp t =>
    simp only [Vam.evA, Act.eval, nth_eq]
    cases ht : tm[t]? with
    | none => exact .any _
    | some x => exact h t x ht
  | const v => exact .cAV v
  | global g => exact .any _
  | func f => exact .c _ _ (.fn0 _ _ _)

/-! ### 3. What an operation does -/
structure Eff where
  res : AV
  nw : Option Bx := none
  kill : List Nat := []
  frz : List Nat := []

inductive Ret where
  | v (x : AV)
  | own (e sz : Nat) (rs : List (List C))
  | mix (pre : List AV) (e sz : Nat) (rs : List (List C)) (post : List AV)

def toC : AV → C
  | .c x => x
  | .nil => .sl []
  | _ => .sc (.bool false)
def isC : AV → Bool
  | .c _ => true
  | .nil => true
  | _ => false
def rowsAt (bx : List Bx) (b : Nat) : Option (Nat × Nat × List (List C)) :=
  match bx[b]? with
  | some (.rows e sz rs) => some (e, sz, rs)
  | _ => none
def cellsAt (bx : List Bx) (b : Nat) : Option (List AV) :=
  match bx[b]? with
  | some (.cells cs) => some cs
  | _ => none
/-- As it is handed to a call: a list of one's own is laid aside. -/
def thaw (bx : List Bx) : AV → AV
  | .own b => match bx[b]? with
    | some (.rows _ _ rs) => .c (.sl rs)
    | _ => .any
  | .nil => .c (.sl [])
  | .ptr _ _ => .any
  | .optr _ _ => .any
  | .osl _ _ _ => .any
  | x => x
def frzOf : AV → List Nat
  | .own b => [b]
  | _ => []

def binI (op : BinOp) (k : IntKind) (a b : Int) : Option Value :=
  match op with
  | .add => some (.int k (k.wrap (a + b)))
  | .sub => some (.int k (k.wrap (a - b)))
  | .mul => some (.int k (k.wrap (a * b)))
  | .eql => some (.bool (a == b))
  | .neq => some (.bool (a != b))
  | .lss => some (.bool (a < b))
  | .leq => some (.bool (a ≤ b))
  | .gtr => some (.bool (a > b))
  | .geq => some (.bool (a ≥ b))
  | _ => none
def binS (op : BinOp) (a b : ByteArray) : Option Value :=
  match op with
  | .eql => some (.bool (a == b))
  | .neq => some (.bool !(a == b))
  | .lss => some (.bool (Op.bytesLess a.toList b.toList))
  | .leq => some (.bool (Op.bytesLess a.toList b.toList || a == b))
  | .gtr => some (.bool !(Op.bytesLess a.toList b.toList || a == b))
  | .geq => some (.bool !(Op.bytesLess a.toList b.toList))
  | _ => none
theorem run_binI {P : Program} {w : World} {op : BinOp} {t : TypeId} {k : IntKind} {a b : Int} {v : Value} (h : binI op k a b = some v) : (binOp op t (.int k a) (.int k b)).run P w = .ok v w := by
  cases op <;> simp only [binI, Option.some.injEq, reduceCtorEq] at h <;> subst h <;> simp [binOp, Op.intArith, Op.intCmp]
theorem run_binS {P : Program} {w : World} {op : BinOp} {t : TypeId} {a b : ByteArray} {v : Value} (h : binS op a b = some v) : (binOp op t (.string a) (.string b)).run P w = .ok v w := by
  cases op <;> simp only [binS, Option.some.injEq, reduceCtorEq] at h <;> subst h <;> simp [binOp, Op.stringOp, beq_toListBytes]

/-! ### 4. One operation is carried out -/
def OpRun (P : Program) (o : Oper) (a : Act) (w : World) (R : Value → World → Prop) : Prop :=
  match (execOp a.eval o).run P w with
  | .ok (.value v) w' => R v w'
  | .ok .skip w' => R undef w'
  | .ok (.enter f args) w' => Calls P f args w' (fun e w'' => ∃ v, e = .returned v ∧ R v w'')
  | .ok (.round l f tmps assign body) w' => RoundIn Fence.wide 0 P l f tmps assign body w' (fun e w'' => ∃ v, e = .returned v ∧ R v w'')
  | _ => False
/-- The fence that asks nothing; in a round of a range over a function, or not. -/
def fenceR (rd : Option Nat) : Fence := { Fence.wide with round := rd }
theorem OpRun.wp {P : Program} {o : Oper} {a : Act} {w : World} {R : Value → World → Prop} (h : OpRun P o a w R) {rd : Option Nat} {K : Act → World → Prop} {Q : Exit → Act → World → Prop} (hk : ∀ v w', R v w' → K (a.put o.dst v) w') : o.wpIn (fenceR rd) 0 P a w K Q := by
  have hnd : ∀ c, o.op ≠ .defer c := fun c hc => by
    unfold OpRun at h
    simp only [execOp, hc, Sem.run_bind] at h
    generalize (resolve a.eval c o.type).run P w = q at h
    cases q with
    | ok d w' => simp [Result.andThen] at h
    | halt x w' => simp [Result.andThen] at h
  unfold Oper.wpIn
  refine ⟨fun _ _ => trivial, ?_⟩
  rw [Oper.semAt_eq _ _ _ hnd]
  unfold OpRun at h
  cases hr : (execOp a.eval o).run P w with
  | ok n w' =>
    rw [hr] at h
    cases n <;> simp only [Oper.uponIn] at h ⊢
    case value v => exact hk _ _ h
    case skip => exact hk _ _ h
    case enter f args =>
      refine ⟨fun h => by simp [fenceR, Fence.wide] at h, ?_⟩
      have : CallsIn Fence.wide 0 P f args w' _ := callsIn_wide.2 h
      exact CallsIn.mono (F := fenceR rd) this fun e w'' ⟨v, he, hR⟩ => by subst he; exact hk _ _ hR
    case round l f tmps assign body =>
      refine ⟨fun h => by simp [fenceR, Fence.wide] at h, ?_⟩
      exact RoundIn.mono (F := fenceR rd) h fun e w'' ⟨v, he, hR⟩ => by subst he; exact hk _ _ hR
  | halt x w' => rw [hr] at h; exact h.elim
theorem OpRun.value {P : Program} {o : Oper} {a : Act} {w w' : World} {R : Value → World → Prop} {v : Value} (h : (execOp a.eval o).run P w = .ok (.value v) w') (hR : R v w') : OpRun P o a w R := by
  unfold OpRun; rw [h]; exact hR

/-- What is so behind an operation. -/
def Post (base : Nat) (w0 : World) (Z : Zone) (β : Nat → Value) (cr lv fz : Nat → Prop) (bx : Nat → Option Bx) (nb : Nat) (e : Eff) (w : World) (v : Value) (w' : World) : Prop :=
  ∃ (Z' : Zone) (β' : Nat → Value), Ext Z Z' w w' ∧ (∀ b, cr b → β' b = β b) ∧ (∀ a, Z' a → ¬ Z a → base ≤ a.block) ∧
    WR base w0 Z' β' (fun b => cr b ∨ (b = nb ∧ e.nw.isSome = true)) (fun b => (lv b ∧ b ∉ e.kill) ∨ (b = nb ∧ e.nw.isSome = true)) (fun b => fz b ∨ b ∈ e.frz) bx w' ∧
    AR Z' w' β' (fun b => cr b ∨ (b = nb ∧ e.nw.isSome = true)) e.res v

theorem WR.mono {base : Nat} {w0 : World} {Z : Zone} {β : Nat → Value} {cr cr' lv lv' fz fz' : Nat → Prop} {bx bx' : Nat → Option Bx} {w : World} (h : WR base w0 Z β cr lv fz bx w)
    (hc : ∀ b, cr b → cr' b) (hl : ∀ b, lv' b → lv b) (hf : ∀ b, fz b → fz' b) (hb : ∀ b, lv' b → bx' b = bx b) : WR base w0 Z β cr' lv' fz' bx' w := by
  refine ⟨h.below, h.hbase, h.zin, h.zsp, fun b hb' => ?_, fun b b' g h1 h2 => h.dis b b' g (hl b h1) (hl b' h2), fun b hb' => hc b (h.sub b (hl b hb')), h.oth⟩
  obtain ⟨x, hx, hB⟩ := h.box b (hl b hb')
  exact ⟨x, (hb b hb').trans hx, hB.ext (Ext.refl Z w) (fun b h => ⟨hc b h, rfl⟩) (h.sub b (hl b hb')) (fun _ _ => rfl) (fun g _ a ha _ => .inl ha) (hf b)⟩

/-- Nothing is laid, nothing is written. -/
theorem Post.quiet {base : Nat} {w0 : World} {Z : Zone} {β : Nat → Value} {cr lv fz : Nat → Prop} {bx : Nat → Option Bx} {nb : Nat} {res : AV} {w w' : World} {v : Value}
    (hW : WR base w0 Z β cr lv fz bx w) (hb : Below w.heap.size w w') (hv : AR Z w β cr res v) : Post base w0 Z β cr lv fz bx nb { res } w v w' := by
  refine ⟨Z, β, ext_of_below hb hW.zin, fun _ _ => rfl, fun a h1 h2 => absurd h1 h2, (hW.still hb).mono (fun b h => .inl h) (fun b h => ?_) (fun b h => .inl h) (fun _ _ => rfl), (hv.still hb hW.zin).ext (Ext.refl _ _) fun b h => ⟨.inl h, rfl⟩⟩
  rcases h with h | h
  · exact h.1
  · simp at h

/-- A box takes the place of others (or none): its block is new, or one of theirs. -/
theorem Post.renew {base : Nat} {w0 : World} {Z : Zone} {β : Nat → Value} {cr lv fz : Nat → Prop} {bx : Nat → Option Bx} {nb : Nat} {res : AV} {w w1 : World} {v u : Value} {x : Bx} {kill frz : List Nat} {row : Option Nat}
    (hW : WR base w0 Z β cr lv fz bx w) (hnb : ¬ cr nb) (hbx : bx nb = some x) (hg : w.grownBy w1 row) (he : Ext Z Z w w1)
    (hrow : ∀ k, row = some k → base ≤ k ∧ (∀ o, w.heap[k]? = some o → o.isCells = true) ∧ ∀ b, lv b → b ∉ kill → blk (β b) ≠ some k)
    (hub : ∀ g, blk u = some g → ∀ b, lv b → b ∉ kill → blk (β b) ≠ some g)
    (hbox : ∀ (β' : Nat → Value) (cr' fz' : Nat → Prop), (∀ b, cr b → cr' b ∧ β' b = β b) → cr' nb → β' nb = u → (nb ∈ frz → fz' nb) → BoxR base Z w1 β' cr' fz' nb x)
    (hres : ∀ (β' : Nat → Value) (cr' : Nat → Prop), (∀ b, cr b → cr' b ∧ β' b = β b) → cr' nb → β' nb = u → AR Z w1 β' cr' res v) :
    Post base w0 Z β cr lv fz bx nb { res, nw := some x, kill, frz } w v w1 := by
  have hb : Below base w w1 := ⟨hg.os, hg.tape, hg.output, hg.size, fun k hk => hg.block k (Nat.lt_of_lt_of_le hk hW.hbase) (fun e => by have := (hrow k e.symm).1; omega)⟩
  let β' : Nat → Value := fun b => if b = nb then u else β b
  have hβ : ∀ b, cr b → β' b = β b := fun b hc => by
    have : b ≠ nb := fun e => hnb (e ▸ hc)
    simp [β', this]
  have hβn : β' nb = u := by simp [β']
  have hcr : ∀ b, cr b → (cr b ∨ (b = nb ∧ (some x).isSome = true)) ∧ β' b = β b := fun b hc => ⟨.inl hc, hβ b hc⟩
  refine ⟨Z, β', he, hβ, fun a h1 h2 => absurd h1 h2, ?_, hres β' _ hcr (.inr ⟨rfl, rfl⟩) hβn⟩
  refine ⟨hW.below.trans hb, Nat.le_trans hW.hbase hb.size, fun a ha => Nat.lt_of_lt_of_le (hW.zin a ha) hb.size, hW.zsp, fun b hl => ?_, fun b b' g h1 h2 hne e1 e2 => ?_, fun b hl => ?_, hW.oth.trans (.of_grownBy hg fun j o hj ho => (hrow j hj).2.1 o ho)⟩
  · rcases hl with ⟨hl, hk⟩ | ⟨rfl, _⟩
    · obtain ⟨y, hy, hB⟩ := hW.box b hl
      refine ⟨y, hy, hB.ext he hcr (hW.sub b hl) (fun g hg' => hg.block g (hB.blk_base hg').2 (fun e => (hrow g e.symm).2.2 b hl hk hg')) (fun g hg' a ha e => .inl ha) (fun h => .inl h)⟩
    · exact ⟨x, hbx, hbox β' _ _ hcr (.inr ⟨rfl, rfl⟩) hβn (fun h => .inr h)⟩
  · rcases h1 with ⟨h1, k1⟩ | ⟨rfl, _⟩ <;> rcases h2 with ⟨h2, k2⟩ | ⟨rfl, _⟩
    · rw [hβ b (hW.sub b h1)] at e1
      rw [hβ b' (hW.sub b' h2)] at e2
      exact hW.dis b b' g h1 h2 hne e1 e2
    · rw [hβ b (hW.sub b h1)] at e1
      rw [hβn] at e2
      exact hub g e2 b h1 k1 e1
    · rw [hβ b' (hW.sub b' h2)] at e2
      rw [hβn] at e1
      exact hub g e1 b' h2 k2 e2
    · exact hne rfl
  · rcases hl with ⟨hl, _⟩ | h
    · exact .inl (hW.sub b hl)
    · exact .inr h
/-- A new block of one's own is laid. -/
theorem Post.alloc {base : Nat} {w0 : World} {Z : Zone} {β : Nat → Value} {cr lv fz : Nat → Prop} {bx : Nat → Option Bx} {nb : Nat} {res : AV} {w w1 : World} {v u : Value} {x : Bx} {kill : List Nat}
    (hW : WR base w0 Z β cr lv fz bx w) (hnb : ¬ cr nb) (hbx : bx nb = some x) (hg : w.grownBy w1 none)
    (hub : ∀ g, blk u = some g → w.heap.size ≤ g)
    (hbox : ∀ (β' : Nat → Value) (cr' fz' : Nat → Prop), (∀ b, cr b → cr' b ∧ β' b = β b) → cr' nb → β' nb = u → BoxR base Z w1 β' cr' fz' nb x)
    (hres : ∀ (β' : Nat → Value) (cr' : Nat → Prop), (∀ b, cr b → cr' b ∧ β' b = β b) → cr' nb → β' nb = u → AR Z w1 β' cr' res v) :
    Post base w0 Z β cr lv fz bx nb { res, nw := some x, kill } w v w1 := by
  refine Post.renew (row := none) (u := u) hW hnb hbx hg (ext_of_grown hg hW.zin (fun a _ => by simp)) (fun k e => by cases e) (fun g h b hl _ e => ?_) (fun β' cr' fz' h1 h2 h3 _ => hbox β' cr' fz' h1 h2 h3) hres
  obtain ⟨y, hy, hB⟩ := hW.box b hl
  have := (hB.blk_base e).2
  have := hub g h
  omega
end Go.Vam

/- An abstract machine over data (part 3): the operations that only read. -/
namespace Go.Vam
open Go.RowKit

theorem AR.sc_inv {Z : Zone} {w : World} {β : Nat → Value} {cr : Nat → Prop} {v u : Value} (h : AR Z w β cr (.c (.sc v)) u) : u = v ∧ isSc v = true := by
  cases h with | c x v h => cases h with | sc v h => exact ⟨rfl, h⟩
theorem CR.sl_inv {Z : Zone} {w : World} {rows : List (List C)} {u : Value} (h : CR Z w (.sl rows) u) :
    ∃ (A : Option Addr) (cap sz : Nat) (vals : Nat → Nat → Value), u = .slice A rows.length cap ∧ rows.length ≤ cap ∧ rows.length ≤ 9223372036854775807 ∧ (0 < rows.length → A.isSome = true) ∧
      (∀ (j : Nat) (row : List C), rows[j]? = some row → row.length = sz) ∧
      (∀ (ad : Addr), A = some ad → ∀ (j : Nat), j < rows.length → ∀ (i : Nat), i < sz → Z (ad.add (j * sz + i)) ∧ w.cell? (ad.add (j * sz + i)) = some (vals j i)) ∧
      (∀ (j : Nat) (row : List C) (i : Nat) (c : C), rows[j]? = some row → row[i]? = some c → CR Z w c (vals j i)) := by
  cases h with | sl rows A cap sz vals hcap hmax hA hrow hcell hval => exact ⟨A, cap, sz, vals, rfl, hcap, hmax, hA, hrow, hcell, hval⟩
theorem AR.sl_inv {Z : Zone} {w : World} {β : Nat → Value} {cr : Nat → Prop} {rows : List (List C)} {u : Value} (h : AR Z w β cr (.c (.sl rows)) u) : CR Z w (.sl rows) u := by
  cases h with | c x v h => exact h
theorem CR.nil (Z : Zone) (w : World) : CR Z w (.sl []) (.slice none 0 0) :=
  .sl [] none 0 0 (fun _ _ => undef) (Nat.le_refl _) (by simp) (by simp) (by simp) (by simp) (by simp)
theorem add_add (a : Addr) (m n : Nat) : (a.add m).add n = a.add (m + n) := by
  unfold Addr.add
  by_cases hm : m = 0 <;> by_cases hn : n = 0 <;> simp [hm, hn, Nat.add_assoc]
theorem add_lit (g o n : Nat) : (⟨g, o, none⟩ : Addr).add n = ⟨g, o + n, none⟩ := by
  unfold Addr.add; split <;> simp_all

section
variable {P : Program} {tt : TT} {base : Nat} {w0 : World} {Z : Zone} {β : Nat → Value} {cr lv fz : Nat → Prop} {bx : Nat → Option Bx} {nb : Nat} {w : World} {a : Act} {o : Oper}

theorem op_quiet {res : AV} {v : Value} (hW : WR base w0 Z β cr lv fz bx w) (hr : (execOp a.eval o).run P w = .ok (.value v) w) (hv : AR Z w β cr res v) :
    OpRun P o a w (Post base w0 Z β cr lv fz bx nb { res } w) := .value hr (.quiet hW (.refl _ _) hv)

theorem op_move {x : Operand} {res : AV} (ho : o.op = .move x ∨ o.op = .assign x) (hW : WR base w0 Z β cr lv fz bx w) (hx : AR Z w β cr res (a.eval x)) :
    OpRun P o a w (Post base w0 Z β cr lv fz bx nb { res } w) := by
  refine op_quiet (v := a.eval x) hW ?_ hx
  rcases ho with ho | ho <;> simp only [execOp, ho] <;> rfl

theorem op_pick {c x y : Operand} {t : Bool} {r1 r2 : AV} (ho : o.op = .pick c x y) (hW : WR base w0 Z β cr lv fz bx w) (hc : AR Z w β cr (.c (.sc (.bool t))) (a.eval c))
    (hx : AR Z w β cr r1 (a.eval x)) (hy : AR Z w β cr r2 (a.eval y)) : OpRun P o a w (Post base w0 Z β cr lv fz bx nb { res := if t then r1 else r2 } w) := by
  have hcv := hc.sc_inv.1
  refine op_quiet (v := if t then a.eval x else a.eval y) hW ?_ ?_
  · simp only [execOp, ho, hcv, asBool, Sem.run_bind, Sem.run_pure, Result.andThen_ok]
  · cases t <;> simpa

theorem op_bin {op : BinOp} {t u : TypeId} {x y : Operand} {k : IntKind} {p q : Int} {v : Value} (ho : o.op = .binOp op t x y u) (hW : WR base w0 Z β cr lv fz bx w)
    (hx : AR Z w β cr (.c (.sc (.int k p))) (a.eval x)) (hy : AR Z w β cr (.c (.sc (.int k q))) (a.eval y)) (hv : binI op k p q = some v) :
    OpRun P o a w (Post base w0 Z β cr lv fz bx nb { res := .c (.sc v) } w) := by
  have hs : isSc v = true := by cases op <;> simp only [binI, Option.some.injEq, reduceCtorEq] at hv <;> subst hv <;> rfl
  have hg : (eqGuard op t x y (.int k p) (.int k q)).run P w = .ok () w := by cases op <;> simp [eqGuard]
  refine op_quiet (v := v) hW ?_ (.c _ _ (.sc _ hs))
  simp only [execOp, ho, hx.sc_inv.1, hy.sc_inv.1, Sem.run_bind, hg, Result.andThen_ok, run_binI hv, Sem.run_pure]
theorem op_binS {op : BinOp} {t u : TypeId} {x y : Operand} {p q : ByteArray} {v : Value} (ho : o.op = .binOp op t x y u) (hW : WR base w0 Z β cr lv fz bx w)
    (hx : AR Z w β cr (.c (.sc (.string p))) (a.eval x)) (hy : AR Z w β cr (.c (.sc (.string q))) (a.eval y)) (hv : binS op p q = some v) :
    OpRun P o a w (Post base w0 Z β cr lv fz bx nb { res := .c (.sc v) } w) := by
  have hs : isSc v = true := by cases op <;> simp only [binS, Option.some.injEq, reduceCtorEq] at hv <;> subst hv <;> rfl
  have hg : (eqGuard op t x y (.string p) (.string q)).run P w = .ok () w := by cases op <;> simp [eqGuard]
  refine op_quiet (v := v) hW ?_ (.c _ _ (.sc _ hs))
  simp only [execOp, ho, hx.sc_inv.1, hy.sc_inv.1, Sem.run_bind, hg, Result.andThen_ok, run_binS hv, Sem.run_pure]
theorem op_binB {t u : TypeId} {x y : Operand} {p q neg : Bool} (ho : o.op = .binOp (if neg then .neq else .eql) t x y u) (hu : P.underlying t = some .bool) (hW : WR base w0 Z β cr lv fz bx w)
    (hx : AR Z w β cr (.c (.sc (.bool p))) (a.eval x)) (hy : AR Z w β cr (.c (.sc (.bool q))) (a.eval y)) :
    OpRun P o a w (Post base w0 Z β cr lv fz bx nb { res := .c (.sc (.bool (if neg then !(p == q) else p == q))) } w) := by
  refine op_quiet (v := .bool (if neg then !(p == q) else p == q)) hW ?_ (.c _ _ (.sc _ rfl))
  cases neg
  · have hg : (eqGuard .eql t x y (.bool p) (.bool q)).run P w = .ok () w := by simp [eqGuard]
    simp only [execOp, ho, hx.sc_inv.1, hy.sc_inv.1, Bool.false_eq_true, if_false, Sem.run_bind, hg, Result.andThen_ok, run_eql_bool w t p q hu, Sem.run_pure]
  · have hg : (eqGuard .neq t x y (.bool p) (.bool q)).run P w = .ok () w := by simp [eqGuard]
    simp only [execOp, ho, hx.sc_inv.1, hy.sc_inv.1, if_true, Sem.run_bind, hg, Result.andThen_ok, run_neq_bool w t p q hu, Sem.run_pure]
theorem run_equalIn_slice_nil (d : Nat) {t : TypeId} {e : Nat} (hu : P.underlying t = some (.slice e)) (A : Option Addr) (n c : Nat) :
    (Op.equalIn (d + 1) t (.slice A n c) (.slice none 0 0)).run P w = .ok A.isNone w := by
  have hU : (underlying t).run P w = .ok (.slice e) w := by simp [underlying, hu]
  cases A <;> simp only [Op.equalIn, Sem.run_bind, hU, Result.andThen_ok] <;> rfl
/-- A list against nil: true at empty lists alone. -/
theorem op_isNil {t u : TypeId} {x y : Operand} {rows : List (List C)} {e : Nat} {R : Value → World → Prop} (ho : o.op = .binOp .eql t x y u) (hu : P.underlying t = some (.slice e))
    (hx : AR Z w β cr (.c (.sl rows)) (a.eval x)) (hy : AR Z w β cr .nil (a.eval y)) (hR : ∀ b : Bool, (b = true → rows = []) → R (.bool b) w) :
    OpRun P o a w R := by
  obtain ⟨A, cap, sz, vals, hv, _, _, hA, _⟩ := hx.sl_inv.sl_inv
  have hyv : a.eval y = .slice none 0 0 := by
    generalize hq : a.eval y = q at hy
    cases hy
    rfl
  refine .value (v := .bool A.isNone) (w' := w) ?_ (hR _ fun h => ?_)
  · have hg : (eqGuard .eql t x y (.slice A rows.length cap) (.slice none 0 0)).run P w = .ok () w := by simp [eqGuard]
    have he : (binOp .eql t (.slice A rows.length cap) (.slice none 0 0)).run P w = .ok (.bool A.isNone) w := by
      show ((Op.equalIn (9999 + 1) t (.slice A rows.length cap) (.slice none 0 0)) >>= fun b => pure (Value.bool b)).run P w = _
      rw [Sem.run_bind, run_equalIn_slice_nil 9999 hu]
      rfl
    simp only [execOp, ho, hv, hyv, Sem.run_bind, hg, Result.andThen_ok, he, Sem.run_pure]
  · cases A with
    | none =>
      rcases Nat.eq_zero_or_pos rows.length with h0 | h0
      · exact List.length_eq_zero_iff.1 h0
      · have := hA h0; simp at this
    | some ad => simp at h

theorem op_not {t : TypeId} {x : Operand} {p : Bool} (ho : o.op = .unOp .not t x) (hW : WR base w0 Z β cr lv fz bx w) (hx : AR Z w β cr (.c (.sc (.bool p))) (a.eval x)) :
    OpRun P o a w (Post base w0 Z β cr lv fz bx nb { res := .c (.sc (.bool (!p))) } w) := by
  refine op_quiet (v := .bool (!p)) hW ?_ (.c _ _ (.sc _ rfl))
  simp [execOp, ho, hx.sc_inv.1, Op.unary]
theorem op_neg {t : TypeId} {x : Operand} {k : IntKind} {p : Int} (ho : o.op = .unOp .neg t x) (hW : WR base w0 Z β cr lv fz bx w) (hx : AR Z w β cr (.c (.sc (.int k p))) (a.eval x)) :
    OpRun P o a w (Post base w0 Z β cr lv fz bx nb { res := .c (.sc (.int k (k.wrap (-p)))) } w) := by
  refine op_quiet (v := .int k (k.wrap (-p))) hW ?_ (.c _ _ (.sc _ rfl))
  simp [execOp, ho, hx.sc_inv.1, Op.unary, Op.intArith]
theorem op_extract {x : Operand} {xs : List AV} {i : Nat} {r : AV} (ho : o.op = .extract x i) (hW : WR base w0 Z β cr lv fz bx w) (hx : AR Z w β cr (.tup xs) (a.eval x)) (hi : xs[i]? = some r) :
    OpRun P o a w (Post base w0 Z β cr lv fz bx nb { res := r } w) := by
  generalize hq : a.eval x = q at hx
  cases hx with
  | tup xs vs hl h =>
    have hlt := (List.getElem?_eq_some_iff.1 hi).1
    have hv : vs[i]? = some (vs[i]'(by omega)) := Array.getElem?_eq_getElem (by omega)
    refine op_quiet (v := vs[i]'(by omega)) hW ?_ (h i r _ hi hv)
    simp [execOp, ho, hq, Instr.extract, hv]
theorem op_field {t : TypeId} {x : Operand} {f : Nat} {cs : List C} {i : TyI} {off ty n : Nat} {ag : Bool} (ho : o.op = .field t x f) (hty : tyOk P t i = true) (hf : i.fs[f]? = some (off, ty, n, ag))
    (hW : WR base w0 Z β cr lv fz bx w) (hx : AR Z w β cr (.agg cs) (a.eval x)) (hlen : off + n ≤ cs.length) (h1 : ag = false → n = 1) :
    OpRun P o a w (Post base w0 Z β cr lv fz bx nb { res := if ag then .agg ((cs.drop off).take n) else .c (cs.getD off (.sc (.bool false))) } w) := by
  obtain ⟨_, _, _, hF⟩ := tyOk_spec hty
  obtain ⟨fields, fd, hu, hfd, hoff, hfty, hn, hsz, hag⟩ := hF f off ty n ag hf
  generalize hq : a.eval x = q at hx
  cases hx with
  | agg cs vs hl h =>
    have hU : (underlying t).run P w = .ok (.struct fields) w := by simp [underlying, hu]
    cases ag with
    | true =>
      refine op_quiet (v := .agg (vs.extract off (off + n))) hW ?_ ?_
      · simp only [execOp, ho, hq, Instr.field, Sem.run_bind, hU, Result.andThen_ok, hfd, asAgg, Sem.run_pure, part, hfty, hoff, hag, hsz, if_true]
      · refine .agg _ _ (by simp; omega) fun k c v h1 h2 => ?_
        simp only [Array.getElem?_extract] at h2
        rw [List.getElem?_take] at h1
        split at h1
        · rw [List.getElem?_drop] at h1
          split at h2
          · exact h _ _ _ h1 h2
          · cases h2
        · cases h1
    | false =>
      have hn1 := h1 rfl
      have hlt : off < cs.length := by omega
      have hv : vs[off]? = some (vs[off]'(by omega)) := Array.getElem?_eq_getElem (by omega)
      refine op_quiet (v := vs[off]'(by omega)) hW ?_ ?_
      · simp only [execOp, ho, hq, Instr.field, Sem.run_bind, hU, Result.andThen_ok, hfd, asAgg, Sem.run_pure, part, hfty, hoff, hag, Bool.false_eq_true, if_false, hv]
      · simp only [Bool.false_eq_true, if_false]
        rw [List.getD_eq_getElem?_getD, List.getElem?_eq_getElem hlt]
        exact .c _ _ (h off _ _ (List.getElem?_eq_getElem hlt) hv)

theorem run_fieldAt {t : TypeId} {i : TyI} {f off ty n : Nat} {ag : Bool} (hty : tyOk P t i = true) (hf : i.fs[f]? = some (off, ty, n, ag)) (ad : Addr) :
    (Instr.fieldAt t (.pointer (some ad)) f).run P w = .ok (.pointer (some (ad.add off))) w := by
  obtain ⟨_, _, _, hF⟩ := tyOk_spec hty
  obtain ⟨fields, fd, hu, hfd, hoff, hfty, hn, hsz, hag⟩ := hF f off ty n ag hf
  have hU : (underlying t).run P w = .ok (.struct fields) w := by simp [underlying, hu]
  have h0 : n ≠ 0 := by omega
  simp [Instr.fieldAt, hU, hfd, Instr.sureAddr, fieldPlace, hfty, hsz, h0, hoff]
theorem op_fieldPt {t : TypeId} {x : Operand} {i : TyI} {f off ty n : Nat} {ag : Bool} {cs : List C} (ho : o.op = .fieldAddr t x f) (hty : tyOk P t i = true) (hf : i.fs[f]? = some (off, ty, n, ag))
    (hW : WR base w0 Z β cr lv fz bx w) (hx : AR Z w β cr (.pt cs) (a.eval x)) : OpRun P o a w (Post base w0 Z β cr lv fz bx nb { res := .pt (cs.drop off) } w) := by
  generalize hq : a.eval x = q at hx
  cases hx with
  | pt cs ad vals hc hv =>
    refine op_quiet (v := .pointer (some (ad.add off))) hW ?_ ?_
    · simp only [execOp, ho, hq, Sem.run_bind, run_fieldAt hty hf, Result.andThen_ok, Sem.run_pure]
    · refine .pt _ _ (fun k => vals (off + k)) (fun k hk => ?_) (fun k c hk => ?_)
      · rw [add_add]
        rw [List.length_drop] at hk
        exact hc (off + k) (by omega)
      · rw [List.getElem?_drop] at hk
        exact hv _ _ hk
theorem op_fieldPtr {t : TypeId} {x : Operand} {i : TyI} {f off ty n b o0 : Nat} {ag : Bool} (ho : o.op = .fieldAddr t x f) (hty : tyOk P t i = true) (hf : i.fs[f]? = some (off, ty, n, ag))
    (hW : WR base w0 Z β cr lv fz bx w) (hx : AR Z w β cr (.ptr b o0) (a.eval x)) : OpRun P o a w (Post base w0 Z β cr lv fz bx nb { res := .ptr b (o0 + off) } w) := by
  generalize hq : a.eval x = q at hx
  cases hx with
  | ptr b o0 g hb h =>
    refine op_quiet (v := .pointer (some ⟨g, o0 + off, none⟩)) hW ?_ (.ptr b _ g hb h)
    simp only [execOp, ho, hq, Sem.run_bind, run_fieldAt hty hf, Result.andThen_ok, Sem.run_pure, add_lit]
theorem op_fieldOptr {t : TypeId} {x : Operand} {i : TyI} {f off ty n b o0 : Nat} {ag : Bool} (ho : o.op = .fieldAddr t x f) (hty : tyOk P t i = true) (hf : i.fs[f]? = some (off, ty, n, ag))
    (hW : WR base w0 Z β cr lv fz bx w) (hx : AR Z w β cr (.optr b o0) (a.eval x)) : OpRun P o a w (Post base w0 Z β cr lv fz bx nb { res := .optr b (o0 + off) } w) := by
  generalize hq : a.eval x = q at hx
  cases hx with
  | optr b o0 g n' cap hb h =>
    refine op_quiet (v := .pointer (some ⟨g, o0 + off, none⟩)) hW ?_ (.optr b _ g n' cap hb h)
    simp only [execOp, ho, hq, Sem.run_bind, run_fieldAt hty hf, Result.andThen_ok, Sem.run_pure, add_lit]

theorem op_indexA {t : TypeId} {x y : Operand} {cs : List C} {i : TyI} {e sz n : Nat} {ag : Bool} {k : IntKind} {j : Int} (ho : o.op = .index t x y) (hty : tyOk P t i = true) (ha : i.ar = some (e, sz, n, ag))
    (hW : WR base w0 Z β cr lv fz bx w) (hx : AR Z w β cr (.agg cs) (a.eval x)) (hy : AR Z w β cr (.c (.sc (.int k j))) (a.eval y)) (h0 : 0 ≤ j) (hj : j < n) (hlen : j.toNat * sz + sz ≤ cs.length) (h1 : ag = false → sz = 1) :
    OpRun P o a w (Post base w0 Z β cr lv fz bx nb { res := if ag then .agg ((cs.drop (j.toNat * sz)).take sz) else .c (cs.getD (j.toNat * sz) (.sc (.bool false))) } w) := by
  obtain ⟨hu, hsz, hag, hs0, _⟩ := tyOk_ar hty ha
  have hyv : a.eval y = .int k j := hy.sc_inv.1
  have hjj : 0 ≤ j ∧ j < (n : Int) := ⟨h0, hj⟩
  generalize hq : a.eval x = q at hx
  cases hx with
  | agg cs vs hl h =>
    have hU : (underlying t).run P w = .ok (.array n e) w := by simp [underlying, hu]
    cases ag with
    | true =>
      refine op_quiet (v := .agg (vs.extract (j.toNat * sz) (j.toNat * sz + sz))) hW ?_ ?_
      · simp only [execOp, ho, hq, hyv, asIntOf, Instr.index, Sem.run_bind, hU, Result.andThen_ok, Sem.run_pure, part, hag, hsz, if_true, hjj, and_self]
      · refine .agg _ _ (by simp; omega) fun k c v h1 h2 => ?_
        simp only [Array.getElem?_extract] at h2
        rw [List.getElem?_take] at h1
        split at h1
        · rw [List.getElem?_drop] at h1
          split at h2
          · exact h _ _ _ h1 h2
          · cases h2
        · cases h1
    | false =>
      have hn1 := h1 rfl
      have hlt : j.toNat * sz < cs.length := by omega
      have hv : vs[j.toNat * sz]? = some (vs[j.toNat * sz]'(by omega)) := Array.getElem?_eq_getElem (by omega)
      refine op_quiet (v := vs[j.toNat * sz]'(by omega)) hW ?_ ?_
      · simp only [execOp, ho, hq, hyv, asIntOf, Instr.index, Sem.run_bind, hU, Result.andThen_ok, Sem.run_pure, part, hag, hsz, Bool.false_eq_true, if_false, hjj, and_self, if_true, hv]
      · simp only [Bool.false_eq_true, if_false]
        rw [List.getD_eq_getElem?_getD, List.getElem?_eq_getElem hlt]
        exact .c _ _ (h (j.toNat * sz) _ _ (List.getElem?_eq_getElem hlt) hv)
theorem op_indexAddrA {t : TypeId} {x y : Operand} {i : TyI} {e sz n b o0 : Nat} {ag : Bool} {k : IntKind} {j : Int} (ho : o.op = .indexAddr t x y) (hty : tyOk P t i = true) (ha : i.ar = some (e, sz, n, ag))
    (hW : WR base w0 Z β cr lv fz bx w) (hx : AR Z w β cr (.ptr b o0) (a.eval x)) (hy : AR Z w β cr (.c (.sc (.int k j))) (a.eval y)) (h0 : 0 ≤ j) (hj : j < n) :
    OpRun P o a w (Post base w0 Z β cr lv fz bx nb { res := .ptr b (o0 + j.toNat * sz) } w) := by
  obtain ⟨hu, hsz, hag, hs0, hn2⟩ := tyOk_ar hty ha
  have hyv : a.eval y = .int k j := hy.sc_inv.1
  have hjj : 0 ≤ j ∧ j < (n : Int) := ⟨h0, hj⟩
  generalize hq : a.eval x = q at hx
  cases hx with
  | ptr b o0 g hb h =>
    have hU : (underlying t).run P w = .ok (.array n e) w := by simp [underlying, hu]
    refine op_quiet (v := .pointer (some ⟨g, o0 + j.toNat * sz, none⟩)) hW ?_ (.ptr b _ g hb h)
    have hnl : ¬ (n ≤ 1) := by omega
    simp only [execOp, ho, hq, hyv, asIntOf, Instr.indexAt, Instr.sureAddr, Sem.run_bind, hU, Result.andThen_ok, Sem.run_pure, hjj, and_self, if_true, hsz, add_lit, hnl, decide_false, Bool.false_and]

theorem op_indexSl {t : TypeId} {x y : Operand} {it ie : TyI} {e : Nat} {rows : List (List C)} {row : List C} {k : IntKind} {j : Int} (ho : o.op = .indexAddr t x y) (hty : tyOk P t it = true) (hsl : it.sl = some e) (hte : tyOk P e ie = true)
    (hW : WR base w0 Z β cr lv fz bx w) (hx : AR Z w β cr (.c (.sl rows)) (a.eval x)) (hy : AR Z w β cr (.c (.sc (.int k j))) (a.eval y)) (h0 : 0 ≤ j) (hrow : rows[j.toNat]? = some row) (hn : row.length = ie.n) :
    OpRun P o a w (Post base w0 Z β cr lv fz bx nb { res := .pt row } w) := by
  obtain ⟨A, cap, sz, vals, hv, _, _, hA, hrl, hcell, hval⟩ := hx.sl_inv.sl_inv
  have hlt := (List.getElem?_eq_some_iff.1 hrow).1
  have hsz : ie.n = sz := by rw [← hn]; exact hrl _ _ hrow
  have hs := hA (by omega)
  cases A with
  | none => simp at hs
  | some ad =>
    have hu := (tyOk_spec hty).2.2.1 e hsl
    obtain ⟨inf, hinf, hinfn, _⟩ := (tyOk_spec hte).2.1
    have hU : (underlying t).run P w = .ok (.slice e) w := by simp [underlying, hu]
    have hS : (sizeOf e).run P w = .ok ie.n w := by simp [sizeOf, typeInfo, hinf, hinfn]
    refine op_quiet (v := .pointer (some (ad.add (j.toNat * ie.n)))) hW ?_ ?_
    · have hj : 0 ≤ j ∧ j < (rows.length : Int) := ⟨h0, by omega⟩
      simp [execOp, ho, hv, hy.sc_inv.1, Instr.indexAt, asIntOf, hU, hS, hj]
    · refine .pt _ _ (vals j.toNat) (fun i hi => ?_) (fun i c hi => hval _ _ _ _ hrow hi)
      rw [add_add, hsz]
      exact hcell ad rfl _ hlt i (by omega)
theorem op_indexOwn {t : TypeId} {x y : Operand} {it ie : TyI} {e e' b : Nat} {rs : List (List C)} {k : IntKind} {j : Int} (ho : o.op = .indexAddr t x y) (hty : tyOk P t it = true) (hsl : it.sl = some e) (hte : tyOk P e ie = true)
    (hW : WR base w0 Z β cr lv fz bx w) (hx : AR Z w β cr (.own b) (a.eval x)) (hlv : lv b) (hb : bx b = some (.rows e' ie.n rs)) (hy : AR Z w β cr (.c (.sc (.int k j))) (a.eval y)) (h0 : 0 ≤ j) (hlt : j < rs.length) :
    OpRun P o a w (Post base w0 Z β cr lv fz bx nb { res := .optr b (j.toNat * ie.n) } w) := by
  have hx' : a.eval x = β b ∧ cr b := by
    generalize hq : a.eval x = q at hx
    cases hx with | own b hb => exact ⟨rfl, hb⟩
  obtain ⟨xx, hxx, hB⟩ := hW.box b hlv
  rw [hb] at hxx
  injection hxx with hxx
  subst hxx
  cases hB with
  | rows e' sz rs inner hown hr hc ht hz =>
    rcases hown.2 with ⟨hv, hn⟩ | ⟨g, cap, cur, hv, _⟩
    · omega
    · have hu := (tyOk_spec hty).2.2.1 e hsl
      obtain ⟨inf, hinf, hinfn, _⟩ := (tyOk_spec hte).2.1
      have hU : (underlying t).run P w = .ok (.slice e) w := by simp [underlying, hu]
      have hS : (sizeOf e).run P w = .ok ie.n w := by simp [sizeOf, typeInfo, hinf, hinfn]
      refine op_quiet (v := .pointer (some ⟨g, j.toNat * ie.n, none⟩)) hW ?_ (.optr b _ g _ cap hx'.2 hv)
      have hj : 0 ≤ j ∧ j < (rs.length : Int) := ⟨h0, by omega⟩
      simp [execOp, ho, hx'.1, hv, hy.sc_inv.1, Instr.indexAt, asIntOf, hU, hS, hj, add_lit]

theorem run_loadAt {t : TypeId} {i : TyI} (hty : tyOk P t i = true) (ad : Addr) (vals : Nat → Value) (hn : i.ag = false → i.n = 1) (hc : ∀ k, k < i.n → w.cell? (ad.add k) = some (vals k)) :
    (Instr.loadAt t (.pointer (some ad))).run P w = .ok (if i.ag then .agg ((List.range i.n).map vals).toArray else vals 0) w := by
  obtain ⟨hag, ⟨inf, hinf, hinfn, _⟩, _⟩ := tyOk_spec hty
  have hS : (sizeOf t).run P w = .ok i.n w := by simp [sizeOf, typeInfo, hinf, hinfn]
  unfold Instr.loadAt loadVar
  simp only [Instr.sureAddr, Sem.run_bind, Sem.run_pure, Result.andThen_ok, hag]
  cases ha : i.ag with
  | true =>
    simp only [if_true, Sem.run_bind, hS, Result.andThen_ok, run_loadCells w ad i.n vals hc, Sem.run_pure]
  | false =>
    have h0 := hc 0 (by have := hn ha; omega)
    have : ad.add 0 = ad := by simp [Addr.add]
    rw [this] at h0
    simp [h0]
theorem getD_of {α : Type} {l : List α} {k : Nat} {x d : α} (h : l[k]? = some x) : l.getD k d = x := by
  rw [List.getD_eq_getElem?_getD, h]; rfl
theorem op_loadPt {t : TypeId} {x : Operand} {i : TyI} {cs : List C} (ho : o.op = .load t x) (hty : tyOk P t i = true) (hn : i.ag = false → i.n = 1) (hlen : i.n ≤ cs.length)
    (hW : WR base w0 Z β cr lv fz bx w) (hx : AR Z w β cr (.pt cs) (a.eval x)) :
    OpRun P o a w (Post base w0 Z β cr lv fz bx nb { res := if i.ag then .agg (cs.take i.n) else .c (cs.getD 0 (.sc (.bool false))) } w) := by
  generalize hq : a.eval x = q at hx
  cases hx with
  | pt cs ad vals hc hv =>
    have hr := run_loadAt (P := P) (w := w) hty ad vals hn (fun k hk => (hc k (by omega)).2)
    refine op_quiet (v := if i.ag then .agg ((List.range i.n).map vals).toArray else vals 0) hW ?_ ?_
    · simp only [execOp, ho, hq, Sem.run_bind, hr, Result.andThen_ok, Sem.run_pure]
    · cases ha : i.ag with
      | true =>
        simp only [if_true]
        refine .agg _ _ (by simp; omega) fun k c v h1 h2 => ?_
        rw [List.getElem?_take] at h1
        split at h1
        · rename_i hk
          have : v = vals k := by simpa [hk] using h2.symm
          subst this
          exact hv _ _ h1
        · cases h1
      | false =>
        have h1 : 0 < cs.length := by have := hn ha; omega
        simp only [Bool.false_eq_true, if_false]
        rw [getD_of (List.getElem?_eq_getElem h1)]
        exact .c _ _ (hv 0 _ (List.getElem?_eq_getElem h1))
theorem toC_sound {x : AV} {v : Value} (h : AR Z w β cr x v) (hc : isC x = true) : CR Z w (toC x) v := by
  cases h <;> simp [isC] at hc
  case c h => exact h
  case nil => exact CR.nil _ _
theorem op_loadPtr {t : TypeId} {x : Operand} {i : TyI} {b off : Nat} {cs : List AV} (ho : o.op = .load t x) (hty : tyOk P t i = true) (hn : i.ag = false → i.n = 1) (hlen : off + i.n ≤ cs.length) (hn0 : 0 < i.n)
    (hC : i.ag = true → ((cs.drop off).take i.n).all isC = true)
    (hW : WR base w0 Z β cr lv fz bx w) (hx : AR Z w β cr (.ptr b off) (a.eval x)) (hlv : lv b) (hb : bx b = some (.cells cs)) :
    OpRun P o a w (Post base w0 Z β cr lv fz bx nb { res := if i.ag then .agg (((cs.drop off).take i.n).map toC) else nth cs off } w) := by
  generalize hq : a.eval x = q at hx
  cases hx with
  | ptr b off g hcb h =>
    obtain ⟨xx, hxx, hB⟩ := hW.box b hlv
    rw [hb] at hxx
    injection hxx with hxx
    subst hxx
    cases hB with
    | cells cs g' arr ty hv hg hh hl hc hz =>
      have hgg : g' = g := by rw [hv] at h; simpa using h
      subst hgg
      have hcell : ∀ k, k < i.n → w.cell? ((⟨g', off, none⟩ : Addr).add k) = some (arr.getD (off + k) undef) := fun k hk => by
        rw [add_lit, cell_of_row w g' (off + k) arr ty (0, 0) hh]
        have : off + k < arr.size := by omega
        simp [this]
      have hr := run_loadAt (P := P) (w := w) hty ⟨g', off, none⟩ (fun k => arr.getD (off + k) undef) hn hcell
      refine op_quiet (v := if i.ag then .agg ((List.range i.n).map (fun k => arr.getD (off + k) undef)).toArray else arr.getD (off + 0) undef) hW ?_ ?_
      · simp only [execOp, ho, hq, Sem.run_bind, hr, Result.andThen_ok, Sem.run_pure]
      · have hat : ∀ (k : Nat) (x : AV), k < i.n → cs[off + k]? = some x → AR Z w β cr x (arr.getD (off + k) undef) := fun k x hk hx => by
          have hlt : off + k < arr.size := by omega
          refine hc (off + k) x _ hx ?_
          simp [hlt]
        cases ha : i.ag with
        | true =>
          simp only [if_true]
          refine .agg _ _ (by simp; omega) fun k c v h1 h2 => ?_
          rw [List.getElem?_map, List.getElem?_take] at h1
          split at h1
          · rename_i hk
            rw [List.getElem?_drop] at h1
            cases hx : cs[off + k]? with
            | none => rw [hx] at h1; simp at h1
            | some y =>
              rw [hx] at h1
              simp only [Option.map_some, Option.some.injEq] at h1
              subst h1
              have hvk : v = arr.getD (off + k) undef := by simpa [hk] using h2.symm
              subst hvk
              have hall := hC ha
              rw [List.all_eq_true] at hall
              exact toC_sound (hat k y hk hx) (hall y (List.mem_of_getElem? (i := k) (by rw [List.getElem?_take, if_pos hk, List.getElem?_drop]; exact hx)))
          · simp at h1
        | false =>
          have hlt : off < cs.length := by omega
          simp only [Bool.false_eq_true, if_false, nth_eq]
          rw [List.getElem?_eq_getElem hlt]
          exact hat 0 _ hn0 (List.getElem?_eq_getElem hlt)
theorem op_loadOptr {t : TypeId} {x : Operand} {i : TyI} {b off e sz j : Nat} {rs : List (List C)} {row : List C} (ho : o.op = .load t x) (hty : tyOk P t i = true) (hn : i.ag = false → i.n = 1) (hn0 : 0 < i.n)
    (hW : WR base w0 Z β cr lv fz bx w) (hx : AR Z w β cr (.optr b off) (a.eval x)) (hlv : lv b) (hb : bx b = some (.rows e sz rs)) (hrow : rs[j]? = some row) (hj : j * sz ≤ off) (hlen : off - j * sz + i.n ≤ row.length) :
    OpRun P o a w (Post base w0 Z β cr lv fz bx nb { res := if i.ag then .agg ((row.drop (off - j * sz)).take i.n) else .c (row.getD (off - j * sz) (.sc (.bool false))) } w) := by
  generalize hq : a.eval x = q at hx
  cases hx with
  | optr b off g n cap hcb h =>
    obtain ⟨xx, hxx, hB⟩ := hW.box b hlv
    rw [hb] at hxx
    injection hxx with hxx
    subst hxx
    cases hB with
    | rows e sz rs inner hown hr hc ht hz =>
      have hsz := hr j row hrow
      have hjl := (List.getElem?_eq_some_iff.1 hrow).1
      have hin := hown.1
      have hmul : j * sz + sz ≤ rs.length * sz := by rw [← Nat.succ_mul]; exact Nat.mul_le_mul_right _ hjl
      have hcell : ∀ k, k < i.n → w.cell? ((⟨g, off, none⟩ : Addr).add k) = some (inner.getD (off + k) undef) := fun k hk => by
        have hlt : off + k < inner.length := by omega
        have := hown.cells (g := g) (by rw [h]; rfl) (off + k) _ (List.getElem?_eq_getElem hlt)
        rw [add_lit, Nat.zero_add] at this
        rw [add_lit, this, getD_of (List.getElem?_eq_getElem hlt)]
      have hr' := run_loadAt (P := P) (w := w) hty ⟨g, off, none⟩ (fun k => inner.getD (off + k) undef) hn hcell
      refine op_quiet (v := if i.ag then .agg ((List.range i.n).map (fun k => inner.getD (off + k) undef)).toArray else inner.getD (off + 0) undef) hW ?_ ?_
      · simp only [execOp, ho, hq, Sem.run_bind, hr', Result.andThen_ok, Sem.run_pure]
      · have hat : ∀ (k : Nat) (c : C), k < i.n → row[off - j * sz + k]? = some c → CR Z w c (inner.getD (off + k) undef) := fun k c hk hc' => by
          have hlt : off + k < inner.length := by omega
          refine hc j row (off - j * sz + k) c _ hrow hc' ?_
          rw [show j * sz + (off - j * sz + k) = off + k by omega, getD_of (List.getElem?_eq_getElem hlt)]
          exact List.getElem?_eq_getElem hlt
        cases ha : i.ag with
        | true =>
          simp only [if_true]
          refine .agg _ _ (by simp; omega) fun k c v h1 h2 => ?_
          rw [List.getElem?_take] at h1
          split at h1
          · rename_i hk
            rw [List.getElem?_drop] at h1
            have hvk : v = inner.getD (off + k) undef := by simpa [hk] using h2.symm
            subst hvk
            exact hat k c hk h1
          · cases h1
        | false =>
          have hlt : off - j * sz < row.length := by omega
          simp only [Bool.false_eq_true, if_false]
          rw [getD_of (List.getElem?_eq_getElem hlt)]
          exact .c _ _ (hat 0 _ hn0 (List.getElem?_eq_getElem hlt))

def BoundR (Z : Zone) (w : World) (β : Nat → Value) (cr : Nat → Prop) (a : Act) (d n : Nat) : Option Operand → Prop
  | none => n = d
  | some y => ∃ (k : IntKind), AR Z w β cr (.c (.sc (.int k n))) (a.eval y)
theorem op_sliceSl {t : TypeId} {x : Operand} {it ie : TyI} {e lo hi : Nat} {rows : List (List C)} {olo ohi omx : Option Operand} (ho : o.op = .slice t x olo ohi omx) (hty : tyOk P t it = true) (hsl : it.sl = some e) (hte : tyOk P e ie = true)
    (hW : WR base w0 Z β cr lv fz bx w) (hx : AR Z w β cr (.c (.sl rows)) (a.eval x)) (hrow : ∀ row ∈ rows, row.length = ie.n)
    (hlo : BoundR Z w β cr a 0 lo olo) (hhi : BoundR Z w β cr a rows.length hi ohi)
    (hmx : ∀ y, omx = some y → ohi.isSome = true ∧ ∃ (k : IntKind) (mx : Nat), AR Z w β cr (.c (.sc (.int k mx))) (a.eval y) ∧ hi ≤ mx ∧ mx ≤ rows.length)
    (h1 : lo ≤ hi) (h2 : hi ≤ rows.length) :
    OpRun P o a w (Post base w0 Z β cr lv fz bx nb { res := .c (.sl ((rows.take hi).drop lo)) } w) := by
  obtain ⟨A, cap, sz, vals, hv, hcap, hmax, hA, hrl, hcell, hval⟩ := hx.sl_inv.sl_inv
  have hu := (tyOk_spec hty).2.2.1 e hsl
  obtain ⟨inf, hinf, hinfn, _⟩ := (tyOk_spec hte).2.1
  have hU : (underlying t).run P w = .ok (.slice e) w := by simp [underlying, hu]
  have hS : (sizeOf e).run P w = .ok ie.n w := by simp [sizeOf, typeInfo, hinf, hinfn]
  have hlen : ((rows.take hi).drop lo).length = hi - lo := by simp; omega
  have hI : ∀ (k : IntKind) (i y : Nat) (code : Go.BoundsCode), i ≤ y → (Instr.sliceBound (.int k (i : Int)) y code).run P w = .ok i w := fun k i y code h => by
    have : 0 ≤ (i : Int) ∧ (i : Int) ≤ (y : Int) := ⟨by omega, by omega⟩
    simp [Instr.sliceBound, asIntOf, this]
  have key : ∃ m, hi ≤ m ∧ m ≤ cap ∧ (Instr.sliceBounds true rows.length cap (olo.map a.eval) (ohi.map a.eval) (omx.map a.eval)).run P w = .ok (lo, hi, m) w := by
    cases olo <;> cases ohi <;> cases omx
    · simp only [BoundR] at hlo hhi; subst hlo; subst hhi
      exact ⟨cap, by omega, Nat.le_refl _, by simp [Instr.sliceBounds]⟩
    · have := (hmx _ rfl).1; simp at this
    · obtain ⟨k, hk⟩ := hhi
      simp only [BoundR] at hlo; subst hlo
      exact ⟨cap, by omega, Nat.le_refl _, by simp only [Instr.sliceBounds, Option.map_none, Option.map_some, hk.sc_inv.1, Sem.run_bind, Sem.run_pure, Result.andThen_ok, hI k hi cap _ (by omega)]⟩
    · obtain ⟨k, hk⟩ := hhi
      obtain ⟨_, k', mx, hm, hm1, hm2⟩ := hmx _ rfl
      simp only [BoundR] at hlo; subst hlo
      exact ⟨mx, hm1, by omega, by simp only [Instr.sliceBounds, Option.map_none, Option.map_some, hk.sc_inv.1, hm.sc_inv.1, Sem.run_bind, Sem.run_pure, Result.andThen_ok, hI k hi mx _ hm1, hI k' mx cap _ (by omega)]⟩
    · obtain ⟨k, hk⟩ := hlo
      simp only [BoundR] at hhi; subst hhi
      exact ⟨cap, by omega, Nat.le_refl _, by simp only [Instr.sliceBounds, Option.map_none, Option.map_some, hk.sc_inv.1, Sem.run_bind, Sem.run_pure, Result.andThen_ok, hI k lo rows.length _ h1]⟩
    · have := (hmx _ rfl).1; simp at this
    · obtain ⟨k, hk⟩ := hlo
      obtain ⟨k', hk'⟩ := hhi
      exact ⟨cap, by omega, Nat.le_refl _, by simp only [Instr.sliceBounds, Option.map_none, Option.map_some, hk.sc_inv.1, hk'.sc_inv.1, Sem.run_bind, Sem.run_pure, Result.andThen_ok, hI k lo hi _ h1, hI k' hi cap _ (by omega)]⟩
    · obtain ⟨k, hk⟩ := hlo
      obtain ⟨k', hk'⟩ := hhi
      obtain ⟨_, k'', mx, hm, hm1, hm2⟩ := hmx _ rfl
      exact ⟨mx, hm1, by omega, by simp only [Instr.sliceBounds, Option.map_some, hk.sc_inv.1, hk'.sc_inv.1, hm.sc_inv.1, Sem.run_bind, Sem.run_pure, Result.andThen_ok, hI k lo hi _ h1, hI k' hi mx _ hm1, hI k'' mx cap _ (by omega)]⟩
  obtain ⟨m, hm1, hm2, hB⟩ := key
  refine op_quiet (v := .slice (if m = lo then A else A.map (·.add (lo * ie.n))) (hi - lo) (m - lo)) hW ?_ ?_
  · simp only [execOp, ho, hv, Instr.sliceAt, Instr.slice, Sem.run_bind, hU, hS, hB, Result.andThen_ok, Sem.run_pure]
  · rw [← hlen]
    refine .c _ _ (.sl _ _ _ sz (fun j i => vals (lo + j) i) (by omega) (by omega) (fun hp => ?_) (fun j row hj => ?_) (fun ad hAd j hj i hi' => ?_) (fun j row i c hj hi' => ?_))
    · have hs := hA (by omega)
      split
      · exact hs
      · simpa using hs
    · rw [List.getElem?_drop, List.getElem?_take] at hj
      split at hj
      · exact hrl _ _ hj
      · cases hj
    · have hlt : lo + j < rows.length := by omega
      have hsz : ie.n = sz := by rw [← hrow _ (List.getElem_mem hlt)]; exact hrl _ _ (List.getElem?_eq_getElem hlt)
      have hne : m ≠ lo := by omega
      rw [if_neg hne] at hAd
      obtain ⟨a0, rfl, rfl⟩ := Option.map_eq_some_iff.1 hAd
      rw [add_add, hsz, show lo * sz + (j * sz + i) = (lo + j) * sz + i by rw [Nat.add_mul]; omega]
      exact hcell a0 rfl (lo + j) hlt i hi'
    · rw [List.getElem?_drop, List.getElem?_take] at hj
      split at hj
      · exact hval _ _ _ _ hj hi'
      · cases hj

theorem op_lenSl {x : Operand} {t : TypeId} {i : TyI} {e : Nat} {rows : List (List C)} (ho : o.op = .call { callee := .builtin .len, args := #[x], argTypes := #[t] }) (hty : tyOk P t i = true) (hsl : i.sl = some e)
    (hW : WR base w0 Z β cr lv fz bx w) (hx : AR Z w β cr (.c (.sl rows)) (a.eval x)) : OpRun P o a w (Post base w0 Z β cr lv fz bx nb { res := .c (.sc (.int .i64 rows.length)) } w) := by
  obtain ⟨A, cap, sz, vals, hv, _⟩ := hx.sl_inv.sl_inv
  have hu := (tyOk_spec hty).2.2.1 e hsl
  refine op_quiet (v := .int .i64 rows.length) hW ?_ (.c _ _ (.sc _ rfl))
  simp [execOp, ho, resolve, invoke, builtin, hv, Builtin.len_, underlying, hu, goInt]
theorem op_lenNil {x : Operand} {t : TypeId} {i : TyI} {e : Nat} (ho : o.op = .call { callee := .builtin .len, args := #[x], argTypes := #[t] }) (hty : tyOk P t i = true) (hsl : i.sl = some e)
    (hW : WR base w0 Z β cr lv fz bx w) (hx : AR Z w β cr .nil (a.eval x)) : OpRun P o a w (Post base w0 Z β cr lv fz bx nb { res := .c (.sc (.int .i64 0)) } w) := by
  have hv : a.eval x = .slice none 0 0 := by
    generalize hq : a.eval x = q at hx
    cases hx
    rfl
  have hu := (tyOk_spec hty).2.2.1 e hsl
  refine op_quiet (v := .int .i64 0) hW ?_ (.c _ _ (.sc _ rfl))
  simp [execOp, ho, resolve, invoke, builtin, hv, Builtin.len_, underlying, hu, goInt]
theorem op_lenOwn {x : Operand} {t : TypeId} {i : TyI} {e e' sz b : Nat} {rs : List (List C)} (ho : o.op = .call { callee := .builtin .len, args := #[x], argTypes := #[t] }) (hty : tyOk P t i = true) (hsl : i.sl = some e)
    (hW : WR base w0 Z β cr lv fz bx w) (hx : AR Z w β cr (.own b) (a.eval x)) (hlv : lv b) (hb : bx b = some (.rows e' sz rs)) : OpRun P o a w (Post base w0 Z β cr lv fz bx nb { res := .c (.sc (.int .i64 rs.length)) } w) := by
  have hx' : a.eval x = β b := by
    generalize hq : a.eval x = q at hx
    cases hx with | own b hb => rfl
  obtain ⟨xx, hxx, hB⟩ := hW.box b hlv
  rw [hb] at hxx
  injection hxx with hxx
  subst hxx
  have hu := (tyOk_spec hty).2.2.1 e hsl
  refine op_quiet (v := .int .i64 rs.length) hW ?_ (.c _ _ (.sc _ rfl))
  cases hB with
  | rows e' sz rs inner hown hr hc ht hz =>
    rcases hown.2 with ⟨hv, hn⟩ | ⟨g, cap, cur, hv, _⟩ <;> simp [execOp, ho, resolve, invoke, builtin, hx', hv, Builtin.len_, underlying, hu, goInt]
    exact hn.symm ▸ rfl
theorem op_lenStr {x : Operand} {t : TypeId} {s : ByteArray} (ho : o.op = .call { callee := .builtin .len, args := #[x], argTypes := #[t] }) (hu : P.underlying t = some .string)
    (hW : WR base w0 Z β cr lv fz bx w) (hx : AR Z w β cr (.c (.sc (.string s))) (a.eval x)) : OpRun P o a w (Post base w0 Z β cr lv fz bx nb { res := .c (.sc (.int .i64 s.size)) } w) := by
  refine op_quiet (v := .int .i64 s.size) hW ?_ (.c _ _ (.sc _ rfl))
  simp [execOp, ho, resolve, invoke, builtin, hx.sc_inv.1, Builtin.len_, underlying, hu, goInt]
theorem op_nilCheck {x : Operand} {r : AV} (ho : o.op = .nilCheck x) (hW : WR base w0 Z β cr lv fz bx w) (hx : AR Z w β cr r (a.eval x)) (hr : (∃ cs, r = .pt cs) ∨ (∃ b off, r = .ptr b off)) :
    OpRun P o a w (Post base w0 Z β cr lv fz bx nb { res := r } w) := by
  refine op_quiet (v := a.eval x) hW ?_ hx
  rcases hr with ⟨cs, rfl⟩ | ⟨b, off, rfl⟩
  · generalize hq : a.eval x = q at hx
    cases hx
    simp [execOp, ho, hq]
  · generalize hq : a.eval x = q at hx
    cases hx
    simp [execOp, ho, hq]
def byteAt (s : ByteArray) (i : Nat) : Int := if h : i < s.size then (s[i].toNat : Int) else 0
theorem op_indexStr {t : TypeId} {x y : Operand} {s : ByteArray} {k : IntKind} {j : Int} (ho : o.op = .index t x y) (hu : P.underlying t = some .string)
    (hW : WR base w0 Z β cr lv fz bx w) (hx : AR Z w β cr (.c (.sc (.string s))) (a.eval x)) (hy : AR Z w β cr (.c (.sc (.int k j))) (a.eval y)) (h0 : 0 ≤ j) (hlt : j < s.size) :
    OpRun P o a w (Post base w0 Z β cr lv fz bx nb { res := .c (.sc (.int .u8 (byteAt s j.toNat))) } w) := by
  have hl : j.toNat < s.size := by omega
  refine op_quiet (v := .int .u8 (byteAt s j.toNat)) hW ?_ (.c _ _ (.sc _ rfl))
  simp [execOp, ho, hx.sc_inv.1, hy.sc_inv.1, Instr.index, asIntOf, underlying, hu, h0, hl, byteAt]
end
end Go.Vam

/- An abstract machine over data (part 4): the operations that make memory. -/
namespace Go.Vam
open Go.RowKit

theorem fold_set_list (off : Nat) : ∀ (l : List Value) (k : Nat) (cells : Array Value), off + k + l.length ≤ cells.size →
    ((l.zipIdx k).foldl (fun cs (x : Value × Nat) => cs.setIfInBounds (off + x.2) x.1) cells).size = cells.size ∧
    ∀ i : Nat, ((l.zipIdx k).foldl (fun cs (x : Value × Nat) => cs.setIfInBounds (off + x.2) x.1) cells)[i]? = if off + k ≤ i ∧ i < off + k + l.length then l[i - off - k]? else cells[i]?
  | [], k, cells, _ => ⟨rfl, fun i => by rw [if_neg (by simp)]; rfl⟩
  | v :: l, k, cells, h => by
    simp only [List.length_cons] at h
    obtain ⟨h1, h2⟩ := fold_set_list off l (k + 1) (cells.setIfInBounds (off + k) v) (by simp; omega)
    simp only [List.zipIdx_cons, List.foldl_cons]
    refine ⟨by rw [h1]; simp, fun i => ?_⟩
    rw [h2]
    by_cases hi : i = off + k
    · subst hi
      rw [if_neg (by omega), if_pos (by simp)]
      have : off + k < cells.size := by omega
      simp [this]
    · by_cases hr : off + (k + 1) ≤ i ∧ i < off + (k + 1) + l.length
      · rw [if_pos hr, if_pos (by simp; omega)]
        rw [show i - off - k = (i - off - (k + 1)) + 1 by omega, List.getElem?_cons_succ]
      · rw [if_neg hr, if_neg (by simp; omega)]
        rw [Array.getElem?_setIfInBounds_ne (by omega)]
theorem fold_set (off : Nat) (vs cells : Array Value) (h : off + vs.size ≤ cells.size) :
    (vs.zipIdx.foldl (fun cs (x : Value × Nat) => cs.setIfInBounds (off + x.2) x.1) cells).size = cells.size ∧
    ∀ i : Nat, (vs.zipIdx.foldl (fun cs (x : Value × Nat) => cs.setIfInBounds (off + x.2) x.1) cells)[i]? = if off ≤ i ∧ i < off + vs.size then vs[i - off]? else cells[i]? := by
  have := fold_set_list off vs.toList 0 cells (by simpa using h)
  rw [← Array.foldl_toList]
  simpa using this

/-! ### 1. Parts of a value that is built -/
def rowOf : AV → Option (List C)
  | .c x => some [x]
  | .nil => some [.sl []]
  | .agg cs => some cs
  | _ => none
def CsO (Z : Zone) (w : World) (cs : List (Option C)) (arr : Array Value) : Prop :=
  arr.size = cs.length ∧ ∀ (i : Nat) (c : C) (v : Value), cs[i]? = some (some c) → arr[i]? = some v → CR Z w c v ∧ v.oneCell' = true
theorem AR.rowOf {Z : Zone} {w : World} {β : Nat → Value} {cr : Nat → Prop} {x : AV} {v : Value} (h : AR Z w β cr x v) {row : List C} (hr : rowOf x = some row) :
    v.cells.size = row.length ∧ ∀ (i : Nat) (c : C) (u : Value), row[i]? = some c → v.cells[i]? = some u → CR Z w c u := by
  cases h with
  | c x v h =>
    simp only [Vam.rowOf, Option.some.injEq] at hr
    subst hr
    have : v.cells = #[v] := by cases v <;> first | rfl | (have := h.one; simp [Value.oneCell'] at this)
    rw [this]
    refine ⟨rfl, fun i c u h1 h2 => ?_⟩
    match i with
    | 0 =>
      simp at h1 h2
      subst h1; subst h2
      exact h
    | i + 1 => simp at h1
  | nil =>
    simp only [Vam.rowOf, Option.some.injEq] at hr
    subst hr
    refine ⟨rfl, fun i c u h1 h2 => ?_⟩
    match i with
    | 0 =>
      simp [Value.cells] at h1 h2
      subst h1; subst h2
      exact CR.nil _ _
    | i + 1 => simp at h1
  | agg cs vs hl h =>
    simp only [Vam.rowOf, Option.some.injEq] at hr
    subst hr
    exact ⟨hl, h⟩
  | any | und | pt | ptr | own | optr | osl | tup | clo | yld => simp [Vam.rowOf] at hr

def fillC (place : Nat → Option (Nat × Nat)) : List (Nat × AV) → List (Option C) → Option (List (Option C))
  | [], cs => some cs
  | (i, x) :: rest, cs =>
    match place i, rowOf x with
    | some (off, n), some row => if row.length = n ∧ off + n ≤ cs.length then fillC place rest (cs.take off ++ row.map some ++ cs.drop (off + n)) else none
    | _, _ => none
theorem fillC_sound {Z : Zone} {w : World} {β : Nat → Value} {cr : Nat → Prop} {place : Nat → Option (Nat × Nat)} : ∀ (parts : List (Nat × AV)) (vparts : List (Nat × Value)) (cs r : List (Option C)) (arr : Array Value),
    parts.map (·.1) = vparts.map (·.1) → (∀ (k : Nat) (p : Nat × AV) (q : Nat × Value), parts[k]? = some p → vparts[k]? = some q → AR Z w β cr p.2 q.2) → CsO Z w cs arr → fillC place parts cs = some r →
    ∃ arr', Instr.fill place arr vparts = some arr' ∧ CsO Z w r arr'
  | [], [], cs, r, arr, _, _, hc, hr => by
    simp only [fillC, Option.some.injEq] at hr
    subst hr
    exact ⟨arr, rfl, hc⟩
  | [], _ :: _, _, _, _, h, _, _, _ => by simp at h
  | _ :: _, [], _, _, _, h, _, _, _ => by simp at h
  | (i, x) :: parts, (i', v) :: vparts, cs, r, arr, hm, hA, hc, hr => by
    simp only [List.map_cons, List.cons.injEq] at hm
    obtain ⟨rfl, hm⟩ := hm
    simp only [fillC] at hr
    cases hp : place i with
    | none => rw [hp] at hr; simp at hr
    | some on =>
      obtain ⟨off, n⟩ := on
      cases hrow : rowOf x with
      | none => rw [hp, hrow] at hr; simp at hr
      | some row =>
        rw [hp, hrow] at hr
        simp only at hr
        split at hr
        · rename_i hcond
          obtain ⟨hl, hle⟩ := hcond
          have hx := hA 0 (i, x) (i, v) rfl rfl
          obtain ⟨hs, hcells⟩ := hx.rowOf hrow
          have hx1 : ∀ (k : Nat) (u : Value), v.cells[k]? = some u → u.oneCell' = true := fun k u hu => by
            have hk : k < row.length := by rw [← hs]; exact (Array.getElem?_eq_some_iff.1 hu).1
            exact (hcells k _ u (List.getElem?_eq_getElem hk) hu).one
          obtain ⟨f1, f2⟩ := fold_set off v.cells arr (by rw [hs, hl, hc.1]; exact hle)
          have hfill : Instr.fill place arr ((i, v) :: vparts) = Instr.fill place (v.cells.zipIdx.foldl (fun cs (x : Value × Nat) => cs.setIfInBounds (off + x.2) x.1) arr) vparts := by
            have hn : ¬ (v.cells.size ≠ n ∨ arr.size < off + v.cells.size) := by rw [hs, hl, hc.1]; omega
            simp only [Instr.fill, hp]
            rw [if_neg (by simpa using hn)]
          rw [hfill]
          refine fillC_sound parts vparts _ r _ hm (fun k p q h1 h2 => hA (k + 1) p q h1 h2) ⟨?_, fun k c u h1 h2 => ?_⟩ hr
          · rw [f1, hc.1]
            simp; omega
          · rw [f2] at h2
            have hsz : v.cells.size = n := by rw [hs, hl]
            rw [hsz] at h2
            have hlt : (cs.take off).length = off := by simp; omega
            by_cases hk : k < off
            · rw [if_neg (by omega)] at h2
              rw [List.append_assoc, List.getElem?_append_left (by omega), List.getElem?_take, if_pos hk] at h1
              exact hc.2 k c u h1 h2
            · by_cases hk2 : k < off + n
              · rw [if_pos (by omega)] at h2
                rw [List.append_assoc, List.getElem?_append_right (by omega), List.getElem?_append_left (by simp; omega), hlt, List.getElem?_map] at h1
                cases hq : row[k - off]? with
                | none => rw [hq] at h1; simp at h1
                | some c' =>
                  rw [hq] at h1
                  simp only [Option.map_some, Option.some.injEq] at h1
                  subst h1
                  exact ⟨hcells _ _ _ hq h2, hx1 _ _ h2⟩
              · rw [if_neg (by omega)] at h2
                rw [List.getElem?_append_right (by simp; omega), List.getElem?_drop] at h1
                simp only [List.length_append, hlt, List.length_map, hl] at h1
                rw [show off + n + (k - (off + n)) = k by omega] at h1
                exact hc.2 k c u h1 h2
        · simp at hr

section
variable {P : Program} {tt : TT} {base : Nat} {w0 : World} {Z : Zone} {β : Nat → Value} {cr lv fz : Nat → Prop} {bx : Nat → Option Bx} {nb : Nat} {w : World} {a : Act} {o : Oper}

theorem isZeroOf_AR {x : AV} {v : Value} (h : isZeroOf x v = true) : AR Z w β cr x v := by
  unfold isZeroOf at h
  split at h
  · simp only [Bool.and_eq_true, beq_iff_eq] at h
    obtain ⟨rfl, rfl⟩ := h
    exact .c _ _ (.sc _ rfl)
  · simp only [beq_iff_eq] at h
    subst h
    exact .c _ _ (.sc _ rfl)
  · rename_i s s'
    simp only [Bool.and_eq_true, beq_iff_eq] at h
    obtain ⟨h1, h2⟩ := h
    have e : s = s' := by
      cases s with | mk d => cases s' with | mk d' =>
        have h1' : d.size = 0 := h1
        have h2' : d'.size = 0 := h2
        have e1 := Array.eq_empty_of_size_eq_zero h1'
        have e2 := Array.eq_empty_of_size_eq_zero h2'
        rw [e1, e2]
    subst e
    exact .c _ _ (.sc _ rfl)
  · exact .nil
  · exact .c _ _ (.sc _ rfl)
  · exact .any _
  · simp at h

theorem grown_alloc (w : World) (o : Obj) : w.grownBy (w.alloc o) none := World.grownBy_alloc w o none

/-- A box of cells that is laid. -/
theorem post_box {cs : List AV} {arr : Array Value} {t : TypeId} (hW : WR base w0 Z β cr lv fz bx w) (hnb : ¬ cr nb) (hbx : bx nb = some (.cells cs)) (hl : arr.size = cs.length)
    (hc : ∀ (i : Nat) (x : AV) (v : Value), cs[i]? = some x → arr[i]? = some v → AR Z w β cr x v) :
    Post base w0 Z β cr lv fz bx nb { res := .ptr nb 0, nw := some (.cells cs) } w (.pointer (some ⟨w.heap.size, 0, none⟩)) (w.alloc (.cells arr t)) := by
  have hg := grown_alloc w (.cells arr t)
  have he : Ext Z Z w (w.alloc (.cells arr t)) := ext_of_grown hg hW.zin (fun a _ => by simp)
  refine Post.alloc (u := .pointer (some ⟨w.heap.size, 0, none⟩)) hW hnb hbx hg (fun g h => by simp [blk] at h; omega) (fun β' cr' fz' hb hn hu => ?_) (fun β' cr' hb hn hu => .ptr nb 0 _ hn hu)
  refine .cells cs w.heap.size arr t hu hW.hbase (heap_alloc_new w _) hl (fun i x v h1 h2 => (hc i x v h1 h2).ext he hb) (fun _ a ha e => ?_)
  have := hW.zin a ha
  omega

theorem op_alloc {t : TypeId} {i : TyI} (ho : o.op = .alloc t) (hty : tyOk P t i = true) (hz : i.zero ≠ []) (hW : WR base w0 Z β cr lv fz bx w) (hnb : ¬ cr nb) (hbx : bx nb = some (.cells i.zero)) :
    OpRun P o a w (Post base w0 Z β cr lv fz bx nb { res := .ptr nb 0, nw := some (.cells i.zero) } w) := by
  obtain ⟨_, ⟨inf, hinf, hinfn, _, hzero⟩, _⟩ := tyOk_spec hty
  obtain ⟨z, hz1, hz2, hz3, hz4⟩ := hzero hz
  refine .value (v := .pointer (some ⟨w.heap.size, 0, none⟩)) (w' := w.alloc (.cells z.cells t)) ?_ (post_box hW hnb hbx (by omega) fun k x v h1 h2 => isZeroOf_AR (hz4 k x v h1 h2).1)
  simp [execOp, ho, Instr.alloc, zeroValue, typeInfo, hinf, hz1, newVar, newRow]

/-- The cells of a value that is boxed or stored. -/
def stOf (bx : Nat → Option Bx) (dead : List Nat) : AV → Option (List AV)
  | .c x => some [.c x]
  | .nil => some [.nil]
  | .agg cs => some (cs.map .c)
  | .pt cs => some [.pt cs]
  | .ptr b off => some [.ptr b off]
  | .clo g f c => some [.clo g f c]
  | .own b => if b ∈ dead then none else match bx b with
    | some (.rows _ _ _) => some [.own b]
    | _ => none
  | _ => none
theorem stOf_sound {x : AV} {v : Value} {cs : List AV} {deadl : List Nat} {bxR : Nat → Option Bx} (hW : WR base w0 Z β cr lv fz bx w) (hdead : ∀ b, x = .own b → cr b → b ∉ deadl → lv b ∧ bx b = bxR b) (h : AR Z w β cr x v) (hb : stOf bxR deadl x = some cs) :
    v.cells.size = cs.length ∧ ∀ (i : Nat) (y : AV) (u : Value), cs[i]? = some y → v.cells[i]? = some u → AR Z w β cr y u ∧ u.oneCell' = true := by
  have one : ∀ (y : AV) (v : Value), v.cells = #[v] → v.oneCell' = true → AR Z w β cr y v → v.cells.size = [y].length ∧ ∀ (i : Nat) (z : AV) (u : Value), [y][i]? = some z → v.cells[i]? = some u → AR Z w β cr z u ∧ u.oneCell' = true := fun y v hv h1 h => by
    rw [hv]
    refine ⟨rfl, fun i z u h1 h2 => ?_⟩
    match i with
    | 0 =>
      simp at h1 h2
      subst h1; subst h2
      exact ⟨h, by assumption⟩
    | i + 1 => simp at h1
  have h0 := h
  cases h with
  | c x v h =>
    simp only [stOf, Option.some.injEq] at hb
    subst hb
    exact one _ _ (by cases v <;> first | rfl | (have := h.one; simp [Value.oneCell'] at this)) h.one h0
  | nil => simp only [stOf, Option.some.injEq] at hb; subst hb; exact one _ _ rfl rfl h0
  | pt => simp only [stOf, Option.some.injEq] at hb; subst hb; exact one _ _ rfl rfl h0
  | ptr => simp only [stOf, Option.some.injEq] at hb; subst hb; exact one _ _ rfl rfl h0
  | clo => simp only [stOf, Option.some.injEq] at hb; subst hb; exact one _ _ rfl rfl h0
  | own b hcb =>
    simp only [stOf] at hb
    split at hb
    · simp at hb
    · rename_i hnd
      obtain ⟨hlv, hbe⟩ := hdead b rfl hcb hnd
      split at hb
      · rename_i e sz rs hbx
        simp only [Option.some.injEq] at hb
        subst hb
        obtain ⟨xx, hxx, hB⟩ := hW.box b hlv
        rw [hbe, hbx] at hxx
        injection hxx with hxx
        subst hxx
        cases hB with
        | rows e sz rs inner hown hr hc ht hz =>
          rcases hown.2 with ⟨hv, _⟩ | ⟨g, cap, cur, hv, _⟩
          · exact one _ _ (by rw [hv]; rfl) (by rw [hv]; rfl) h0
          · exact one _ _ (by rw [hv]; rfl) (by rw [hv]; rfl) h0
      · simp at hb
  | agg cs vs hl h =>
    simp only [stOf, Option.some.injEq] at hb
    subst hb
    refine ⟨by simpa [Value.cells] using hl, fun i y u h1 h2 => ?_⟩
    rw [List.getElem?_map] at h1
    cases hq : cs[i]? with
    | none => rw [hq] at h1; simp at h1
    | some c =>
      rw [hq] at h1
      simp only [Option.map_some, Option.some.injEq] at h1
      subst h1
      have := h i c u hq h2
      exact ⟨.c _ _ this, this.one⟩
  | any | und | optr | osl | tup | yld => simp [stOf] at hb
theorem op_box {t : TypeId} {x : Operand} {r : AV} {cs : List AV} (ho : o.op = .box t x) (hW : WR base w0 Z β cr lv fz bx w) {deadl : List Nat} {bxR : Nat → Option Bx} (hx : AR Z w β cr r (a.eval x)) (hr : stOf bxR deadl r = some cs) (hdead : ∀ b, r = .own b → cr b → b ∉ deadl → lv b ∧ bx b = bxR b) (hnb : ¬ cr nb) (hbx : bx nb = some (.cells cs)) :
    OpRun P o a w (Post base w0 Z β cr lv fz bx nb { res := .ptr nb 0, nw := some (.cells cs) } w) := by
  obtain ⟨h1, h2⟩ := stOf_sound hW hdead hx hr
  refine .value (v := .pointer (some ⟨w.heap.size, 0, none⟩)) (w' := w.alloc (.cells (a.eval x).cells t)) ?_ (post_box hW hnb hbx h1 fun i y u e1 e2 => (h2 i y u e1 e2).1)
  simp [execOp, ho, Instr.box, newVar, newRow]

/-! ### 2. build -/
def allC : List (Option C) → Option (List C)
  | [] => some []
  | none :: _ => none
  | some c :: l => (allC l).map (c :: ·)
theorem allC_spec : ∀ (l : List (Option C)) (r : List C), allC l = some r → l = r.map some
  | [], r, h => by simp only [allC, Option.some.injEq] at h; subst h; rfl
  | none :: l, r, h => by simp [allC] at h
  | some c :: l, r, h => by
    simp only [allC] at h
    obtain ⟨r', h1, rfl⟩ := Option.map_eq_some_iff.1 h
    rw [allC_spec l r' h1]
    rfl
def zeroO : List AV → List (Option C)
  | [] => []
  | x :: l => (if isC x then some (toC x) else none) :: zeroO l
theorem zeroO_spec : ∀ (l : List AV), (zeroO l).length = l.length ∧ ∀ (i : Nat) (c : C), (zeroO l)[i]? = some (some c) → ∃ x, l[i]? = some x ∧ isC x = true ∧ toC x = c
  | [] => ⟨rfl, fun i c h => by simp [zeroO] at h⟩
  | x :: l => by
    obtain ⟨h1, h2⟩ := zeroO_spec l
    refine ⟨by simp [zeroO, h1], fun i c h => ?_⟩
    match i with
    | 0 =>
      simp only [zeroO, List.getElem?_cons_zero, Option.some.injEq] at h
      split at h
      · rename_i hc
        simp only [Option.some.injEq] at h
        exact ⟨x, rfl, hc, h⟩
      · simp at h
    | i + 1 =>
      simp only [zeroO, List.getElem?_cons_succ] at h ⊢
      exact h2 i c h
def placeOf (fs : List (Nat × Nat × Nat × Bool)) (k : Nat) : Option (Nat × Nat) := (fs[k]?).map fun f => (f.1, f.2.2.1)
theorem run_mapM {α β : Type} (g : α → Sem β) (r : α → β) : ∀ (l : List α), (∀ x ∈ l, ∀ w, (g x).run P w = .ok (r x) w) → ∀ w, (l.mapM g).run P w = .ok (l.map r) w
  | [], _, w => by simp
  | x :: l, h, w => by
    rw [List.mapM_cons]
    simp only [Sem.run_bind, h x (by simp) w, Result.andThen_ok, run_mapM g r l (fun y hy => h y (by simp [hy])) w, Sem.run_pure, List.map_cons]
theorem run_mapM_array {α β : Type} (g : α → Sem β) (r : α → β) (l : Array α) (h : ∀ x ∈ l, ∀ w, (g x).run P w = .ok (r x) w) (w : World) : (l.mapM g).run P w = .ok (l.map r) w := by
  cases l with | mk l =>
  rw [List.mapM_toArray]
  simp only [Sem.run_map, run_mapM g r l (fun x hx => h x (by simpa using hx)) w, Result.andThen_ok, List.map_toArray]

theorem parts_AR {parts : Array (Nat × Operand)} {ρ : Operand → AV} (hA : ∀ p ∈ parts, AR Z w β cr (ρ p.2) (a.eval p.2)) :
    (parts.toList.map fun p => (p.1, ρ p.2)).map (·.1) = ((parts.map fun p => (p.1, a.eval p.2)).toList).map (·.1) ∧
    ∀ (k : Nat) (p : Nat × AV) (q : Nat × Value), (parts.toList.map fun p => (p.1, ρ p.2))[k]? = some p → ((parts.map fun p => (p.1, a.eval p.2)).toList)[k]? = some q → AR Z w β cr p.2 q.2 := by
  refine ⟨by simp, fun k p q h1 h2 => ?_⟩
  rw [Array.toList_map, List.getElem?_map] at h2
  rw [List.getElem?_map] at h1
  cases hk : parts.toList[k]? with
  | none => rw [hk] at h1; simp at h1
  | some pp =>
    rw [hk] at h1 h2
    simp only [Option.map_some, Option.some.injEq] at h1 h2
    subst h1; subst h2
    exact hA pp (by simpa using List.mem_of_getElem? hk)

theorem op_build {t : TypeId} {parts : Array (Nat × Operand)} {i : TyI} {ρ : Operand → AV} {f : List (Option C)} {r : List C} (ho : o.op = .build t parts) (hty : tyOk P t i = true) (hz : i.zero ≠ []) (hfs : i.fs ≠ [])
    (hW : WR base w0 Z β cr lv fz bx w) (hA : ∀ p ∈ parts, AR Z w β cr (ρ p.2) (a.eval p.2))
    (hf : fillC (placeOf i.fs) (parts.toList.map fun p => (p.1, ρ p.2)) (zeroO i.zero) = some f) (hr : allC f = some r) :
    OpRun P o a w (Post base w0 Z β cr lv fz bx nb { res := .agg r } w) := by
  obtain ⟨_, ⟨inf, hinf, hinfn, _, hzero⟩, _, hF⟩ := tyOk_spec hty
  obtain ⟨z, hz1, hz2, hz3, hz4⟩ := hzero hz
  obtain ⟨x0, xs, hx0⟩ := List.exists_cons_of_ne_nil hfs
  obtain ⟨off0, ty0, n0, ag0⟩ := x0
  obtain ⟨fields, hu, hfsz⟩ := tyOk_fields hty (k := 0) (by rw [hx0]; rfl)
  have hU : (underlying t).run P w = .ok (.struct fields) w := by simp [underlying, hu]
  have hfield : ∀ (k : Nat) (fd : Field), fields[k]? = some fd → ∃ off ty n ag, i.fs[k]? = some (off, ty, n, ag) ∧ fd.offset = off ∧ ∀ w, (sizeOf fd.type).run P w = .ok n w := fun k fd hk => by
    have hlt : k < i.fs.length := by rw [← hfsz]; exact (Array.getElem?_eq_some_iff.1 hk).1
    rcases hq : i.fs[k] with ⟨off, ty, n, ag⟩
    have hk2 : i.fs[k]? = some (off, ty, n, ag) := by rw [List.getElem?_eq_getElem hlt, hq]
    obtain ⟨fields', fd', hu', hfd, h1, h2, _, h3, _⟩ := hF k off ty n ag hk2
    rw [hu] at hu'
    injection hu' with hu'
    injection hu' with hu'
    subst hu'
    rw [hk] at hfd
    injection hfd with hfd
    subst hfd
    exact ⟨off, ty, n, ag, hk2, h1, by rw [h2]; exact h3⟩
  let rr : Field → Nat × Nat := fun fd => (fd.offset, match (sizeOf fd.type).run P w with | .ok n _ => n | _ => 0)
  have hplaces : (fields.mapM (fun (f : Field) => (do pure (f.offset, ← sizeOf f.type) : Sem (Nat × Nat)))).run P w = .ok (fields.map rr) w := by
    refine run_mapM_array _ rr fields (fun fd hfd w' => ?_) w
    obtain ⟨k, hk⟩ := List.mem_iff_getElem?.1 (Array.mem_toList_iff.2 hfd)
    obtain ⟨off, ty, n, ag, _, _, hs⟩ := hfield k fd (by simpa using hk)
    simp only [Sem.run_bind, hs, Result.andThen_ok, Sem.run_pure, rr]
  have hpl : ∀ k on, placeOf i.fs k = some on → (fields.map rr)[k]? = some on := fun k on h => by
    unfold placeOf at h
    obtain ⟨⟨off, ty, n, ag⟩, hk, rfl⟩ := Option.map_eq_some_iff.1 h
    obtain ⟨fields', fd', hu', hfd, h1, h2, _, h3, _⟩ := hF k off ty n ag hk
    rw [hu] at hu'
    injection hu' with hu'
    injection hu' with hu'
    subst hu'
    rw [Array.getElem?_map, hfd]
    simp [rr, h1, h2, h3]
  have hc0 : CsO Z w (zeroO i.zero) z.cells := by
    obtain ⟨l1, l2⟩ := zeroO_spec i.zero
    refine ⟨by rw [hz2, l1, hz3], fun k c v h1 h2 => ?_⟩
    obtain ⟨x, hx, hxc, rfl⟩ := l2 k c h1
    have := hz4 k x v hx h2
    exact ⟨toC_sound (β := β) (cr := cr) (isZeroOf_AR this.1) hxc, this.2⟩
  have mono : ∀ (ps : List (Nat × AV)) (cs r : List (Option C)), fillC (placeOf i.fs) ps cs = some r → fillC ((fields.map rr)[·]?) ps cs = some r := fun ps => by
    induction ps with
    | nil => intro cs r h; exact h
    | cons p ps ih =>
      intro cs r h
      obtain ⟨k, x⟩ := p
      simp only [fillC] at h ⊢
      cases hp : placeOf i.fs k with
      | none => rw [hp] at h; simp at h
      | some on =>
        rw [hp] at h
        rw [hpl k on hp]
        obtain ⟨off, n⟩ := on
        cases hrow : rowOf x with
        | none => rw [hrow] at h; simp at h
        | some row =>
          rw [hrow] at h
          simp only at h ⊢
          split at h
          · rename_i hc
            rw [if_pos hc]
            exact ih _ _ h
          · simp at h
  obtain ⟨hp1, hp2⟩ := parts_AR (a := a) hA
  obtain ⟨arr, hfill, hcs⟩ := fillC_sound (place := ((fields.map rr)[·]?)) _ _ _ _ _ hp1 hp2 hc0 (mono _ _ _ hf)
  refine .value (v := .agg arr) (w' := w) ?_ (.quiet hW (.refl _ _) ?_)
  · have hZ : (zeroValue t).run P w = .ok z w := by simp [zeroValue, typeInfo, hinf, hz1]
    simp only [execOp, ho, Instr.build, Sem.run_bind, hZ, Result.andThen_ok, hU, hplaces, hfill, Sem.run_pure]
  · have hf2 := allC_spec f r hr
    subst hf2
    refine .agg _ _ (by simpa using hcs.1) fun k c v h1 h2 => (hcs.2 k c v (by rw [List.getElem?_map, h1]; rfl) h2).1
def placeA (sz : Nat) (k : Nat) : Option (Nat × Nat) := some (k * sz, sz)
theorem op_buildA {t : TypeId} {parts : Array (Nat × Operand)} {i : TyI} {e sz n : Nat} {ag : Bool} {ρ : Operand → AV} {f : List (Option C)} {r : List C} (ho : o.op = .build t parts) (hty : tyOk P t i = true) (hz : i.zero ≠ []) (ha : i.ar = some (e, sz, n, ag))
    (hW : WR base w0 Z β cr lv fz bx w) (hA : ∀ p ∈ parts, AR Z w β cr (ρ p.2) (a.eval p.2))
    (hf : fillC (placeA sz) (parts.toList.map fun p => (p.1, ρ p.2)) (zeroO i.zero) = some f) (hr : allC f = some r) :
    OpRun P o a w (Post base w0 Z β cr lv fz bx nb { res := .agg r } w) := by
  obtain ⟨_, ⟨inf, hinf, hinfn, _, hzero⟩, _, _⟩ := tyOk_spec hty
  obtain ⟨hu, hsz, _, _, _⟩ := tyOk_ar hty ha
  obtain ⟨z, hz1, hz2, hz3, hz4⟩ := hzero hz
  have hU : (underlying t).run P w = .ok (.array n e) w := by simp [underlying, hu]
  have hc0 : CsO Z w (zeroO i.zero) z.cells := by
    obtain ⟨l1, l2⟩ := zeroO_spec i.zero
    refine ⟨by rw [hz2, l1, hz3], fun k c v h1 h2 => ?_⟩
    obtain ⟨x, hx, hxc, rfl⟩ := l2 k c h1
    have := hz4 k x v hx h2
    exact ⟨toC_sound (β := β) (cr := cr) (isZeroOf_AR this.1) hxc, this.2⟩
  obtain ⟨hp1, hp2⟩ := parts_AR (a := a) hA
  obtain ⟨arr, hfill, hcs⟩ := fillC_sound (place := placeA sz) _ _ _ _ _ hp1 hp2 hc0 hf
  refine .value (v := .agg arr) (w' := w) ?_ (.quiet hW (.refl _ _) ?_)
  · have hZ : (zeroValue t).run P w = .ok z w := by simp [zeroValue, typeInfo, hinf, hz1]
    have hfill' : Instr.fill (fun i => some (i * sz, sz)) z.cells (parts.map fun p => (p.1, a.eval p.2)).toList = some arr := hfill
    simp only [execOp, ho, Instr.build, Sem.run_bind, hZ, Result.andThen_ok, hU, hsz, hfill', Sem.run_pure]
  · have hf2 := allC_spec f r hr
    subst hf2
    refine .agg _ _ (by simpa using hcs.1) fun k c v h1 h2 => (hcs.2 k c v (by rw [List.getElem?_map, h1]; rfl) h2).1
end
end Go.Vam
