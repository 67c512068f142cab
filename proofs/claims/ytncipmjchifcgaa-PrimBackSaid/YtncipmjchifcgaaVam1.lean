/- An abstract machine over data (part 1): cells of data that nobody writes any more, abstract values, boxes, and what they say of a world. -/
import Derived.Orders
import Derived.Below
import Derived.OwnWalk
import Derived.Laws.AppendOwn
import Derived.Laws.OwnMore
import Derived.Laws.Cells
import Derived.Laws.StructEq
import Derived.Laws.Small
import Derived.RangeFuncOwn
import Derived.RangeFuncIn
import Derived.OrdersIn
import Derived.TacticsIn
import Derived.Sort.LoopGhostIn
set_option linter.unusedVariables false
set_option linter.unusedSimpArgs false
namespace Go.Vam
open Go.RowKit

/-! ### 1. Cells of data -/
/-- One cell of data: a scalar; a slice of rows of cells; a function with what it has captured. -/
inductive C where
  | sc (v : Value)
  | sl (rows : List (List C))
  | fn (g : FuncId) (caps : List (List C))

/-- The cells that nobody writes any more. -/
abbrev Zone := Addr → Prop

def isSc : Value → Bool
  | .bool _ | .int _ _ | .string _ => true
  | _ => false

inductive CR (Z : Zone) (w : World) : C → Value → Prop
  | sc (v : Value) (h : isSc v = true) : CR Z w (.sc v) v
  | sl (rows : List (List C)) (A : Option Addr) (cap sz : Nat) (vals : Nat → Nat → Value)
      (hcap : rows.length ≤ cap) (hmax : rows.length ≤ 9223372036854775807)
      (hA : 0 < rows.length → A.isSome = true)
      (hrow : ∀ (j : Nat) (row : List C), rows[j]? = some row → row.length = sz)
      (hcell : ∀ (ad : Addr), A = some ad → ∀ (j : Nat), j < rows.length → ∀ (i : Nat), i < sz → Z (ad.add (j * sz + i)) ∧ w.cell? (ad.add (j * sz + i)) = some (vals j i))
      (hval : ∀ (j : Nat) (row : List C) (i : Nat) (c : C), rows[j]? = some row → row[i]? = some c → CR Z w c (vals j i)) :
      CR Z w (.sl rows) (.slice A rows.length cap)
  | fn (g : FuncId) (caps : List (List C)) (ps : List Addr) (vals : Nat → Nat → Value)
      (hl : ps.length = caps.length)
      (hcell : ∀ (k : Nat) (ad : Addr) (cs : List C), ps[k]? = some ad → caps[k]? = some cs → ∀ (i : Nat), i < cs.length → Z (ad.add i) ∧ w.cell? (ad.add i) = some (vals k i))
      (hval : ∀ (k : Nat) (cs : List C) (i : Nat) (c : C), caps[k]? = some cs → cs[i]? = some c → CR Z w c (vals k i)) :
      CR Z w (.fn g caps) (.func (.func g) #[] (ps.map fun a => Value.pointer (some a)).toArray)

/-- From one world to another one: what was laid aside is as it was. -/
structure Ext (Z Z' : Zone) (w w' : World) : Prop where
  sub : ∀ a, Z a → Z' a
  same : ∀ a, Z a → w'.cell? a = w.cell? a
theorem Ext.refl (Z : Zone) (w : World) : Ext Z Z w w := ⟨fun _ h => h, fun _ _ => rfl⟩
theorem Ext.trans {Z Z' Z'' : Zone} {w w' w'' : World} (h : Ext Z Z' w w') (k : Ext Z' Z'' w' w'') : Ext Z Z'' w w'' :=
  ⟨fun a ha => k.sub a (h.sub a ha), fun a ha => (k.same a (h.sub a ha)).trans (h.same a ha)⟩

theorem CR.ext {Z Z' : Zone} {w w' : World} (he : Ext Z Z' w w') {c : C} {v : Value} (h : CR Z w c v) : CR Z' w' c v := by
  induction h with
  | sc v h => exact .sc v h
  | sl rows A cap sz vals hcap hmax hA hrow hcell hval ih =>
    refine .sl rows A cap sz vals hcap hmax hA hrow (fun ad e j hj i hi => ?_) ih
    obtain ⟨hz, hc⟩ := hcell ad e j hj i hi
    exact ⟨he.sub _ hz, (he.same _ hz).trans hc⟩
  | fn g caps ps vals hl hcell hval ih =>
    refine .fn g caps ps vals hl (fun k ad cs e1 e2 i hi => ?_) ih
    obtain ⟨hz, hc⟩ := hcell k ad cs e1 e2 i hi
    exact ⟨he.sub _ hz, (he.same _ hz).trans hc⟩
theorem CR.one {Z : Zone} {w : World} {c : C} {v : Value} (h : CR Z w c v) : v.oneCell' = true := by
  cases h with
  | sc v h => cases v <;> first | rfl | simp [isSc] at h
  | sl => rfl
  | fn => rfl

/-! ### 2. Abstract values -/
inductive AV where
  | any
  | und
  | c (x : C)
  | agg (cs : List C)
  | pt (cs : List C)
  | ptr (b off : Nat)
  | own (b : Nat)
  | optr (b off : Nat)
  | nil
  | tup (xs : List AV)
  | clo (g : FuncId) (first caps : List AV)
  | yld (b : Nat)
/-- What the temporaries hold, as far as it is known, the newest first. -/
def look : List (Nat × AV) → Nat → AV
  | [], _ => .any
  | (t, x) :: l, n => if t = n then x else look l n

inductive AR (Z : Zone) (w : World) (β : Nat → Value) (cr : Nat → Prop) : AV → Value → Prop
  | any (v : Value) : AR Z w β cr .any v
  | und : AR Z w β cr .und undef
  | c (x : C) (v : Value) (h : CR Z w x v) : AR Z w β cr (.c x) v
  | agg (cs : List C) (vs : Array Value) (hl : vs.size = cs.length)
      (h : ∀ (i : Nat) (c : C) (v : Value), cs[i]? = some c → vs[i]? = some v → CR Z w c v) : AR Z w β cr (.agg cs) (.agg vs)
  | pt (cs : List C) (a : Addr) (vals : Nat → Value)
      (hc : ∀ (i : Nat), i < cs.length → Z (a.add i) ∧ w.cell? (a.add i) = some (vals i))
      (hv : ∀ (i : Nat) (c : C), cs[i]? = some c → CR Z w c (vals i)) : AR Z w β cr (.pt cs) (.pointer (some a))
  | ptr (b off g : Nat) (hb : cr b) (h : β b = .pointer (some ⟨g, 0, none⟩)) : AR Z w β cr (.ptr b off) (.pointer (some ⟨g, off, none⟩))
  | own (b : Nat) (hb : cr b) : AR Z w β cr (.own b) (β b)
  | optr (b off g n cap : Nat) (hb : cr b) (h : β b = .slice (some ⟨g, 0, none⟩) n cap) : AR Z w β cr (.optr b off) (.pointer (some ⟨g, off, none⟩))
  | nil : AR Z w β cr .nil (.slice none 0 0)
  | tup (xs : List AV) (vs : Array Value) (hl : vs.size = xs.length)
      (h : ∀ (i : Nat) (x : AV) (v : Value), xs[i]? = some x → vs[i]? = some v → AR Z w β cr x v) : AR Z w β cr (.tup xs) (.tuple vs)
  | clo (g : FuncId) (first caps : List AV) (fs cs : Array Value) (hl : fs.size = first.length) (hl' : cs.size = caps.length)
      (h : ∀ (i : Nat) (x : AV) (v : Value), first[i]? = some x → fs[i]? = some v → AR Z w β cr x v)
      (h' : ∀ (i : Nat) (x : AV) (v : Value), caps[i]? = some x → cs[i]? = some v → AR Z w β cr x v) : AR Z w β cr (.clo g first caps) (.func (.func g) fs cs)
  | yld (b g : Nat) (hb : cr b) (h : β b = .pointer (some ⟨g, 0, none⟩)) : AR Z w β cr (.yld b) (.func (.yield g) #[] #[])

theorem AR.ext {Z Z' : Zone} {w w' : World} {β β' : Nat → Value} {cr cr' : Nat → Prop} (he : Ext Z Z' w w') (hb : ∀ b, cr b → cr' b ∧ β' b = β b) {x : AV} {v : Value}
    (h : AR Z w β cr x v) : AR Z' w' β' cr' x v := by
  induction h with
  | any v => exact .any v
  | und => exact .und
  | c x v h => exact .c x v (h.ext he)
  | agg cs vs hl h => exact .agg cs vs hl fun i c v h1 h2 => (h i c v h1 h2).ext he
  | pt cs a vals hc hv => exact .pt cs a vals (fun i hi => ⟨he.sub _ (hc i hi).1, (he.same _ (hc i hi).1).trans (hc i hi).2⟩) fun i c h1 => (hv i c h1).ext he
  | ptr b off g hb' h => exact .ptr b off g (hb b hb').1 ((hb b hb').2.trans h)
  | own b hb' =>
    rw [← (hb b hb').2]
    exact .own b (hb b hb').1
  | optr b off g n cap hb' h => exact .optr b off g n cap (hb b hb').1 ((hb b hb').2.trans h)
  | nil => exact .nil
  | tup xs vs hl h ih => exact .tup xs vs hl ih
  | clo g first caps fs cs hl hl' h h' ih ih' => exact .clo g first caps fs cs hl hl' ih ih'
  | yld b g hb' h => exact .yld b g (hb b hb').1 ((hb b hb').2.trans h)

/-! ### 3. Boxes -/
inductive Bx where
  | cells (cs : List AV)
  | rows (e sz : Nat) (rs : List (List C))
  | lp (nt : Nat) (tm : List (Nat × AV)) (ps : List Nat) (assign body : Code) (st : LoopState) (pend : Option Code)
def Bx.isLp : Bx → Bool
  | .lp _ _ _ _ _ _ _ => true
  | _ => false

def blk : Value → Option Nat
  | .pointer (some a) => some a.block
  | .slice (some a) _ _ => some a.block
  | _ => none

inductive BoxR (base : Nat) (Z : Zone) (w : World) (β : Nat → Value) (cr : Nat → Prop) (fz : Nat → Prop) (b : Nat) : Bx → Prop
  | cells (cs : List AV) (g : Nat) (arr : Array Value) (t : TypeId) (hv : β b = .pointer (some ⟨g, 0, none⟩)) (hg : base ≤ g)
      (hh : w.heap[g]? = some (.cells arr t (0, 0))) (hl : arr.size = cs.length)
      (hc : ∀ (i : Nat) (x : AV) (v : Value), cs[i]? = some x → arr[i]? = some v → AR Z w β cr x v)
      (hz : ¬ fz b → ∀ a, Z a → a.block ≠ g) : BoxR base Z w β cr fz b (.cells cs)
  | rows (e sz : Nat) (rs : List (List C)) (inner : List Value) (ho : w.ownsRow base e sz (β b) rs.length inner)
      (hr : ∀ (j : Nat) (row : List C), rs[j]? = some row → row.length = sz)
      (hc : ∀ (j : Nat) (row : List C) (i : Nat) (c : C) (v : Value), rs[j]? = some row → row[i]? = some c → inner[j * sz + i]? = some v → CR Z w c v)
      (ht : ∀ g, (β b).ownBlock = some g → ∀ a, Z a → a.block = g → a.off < rs.length * sz)
      (hz : ¬ fz b → ∀ g, (β b).ownBlock = some g → ∀ a, Z a → a.block ≠ g) : BoxR base Z w β cr fz b (.rows e sz rs)
  | lp (nt : Nat) (tm : List (Nat × AV)) (ps : List Nat) (assign body : Code) (st : LoopState) (pend : Option Code) (g : Nat) (rec : Loop) (hv : β b = .pointer (some ⟨g, 0, none⟩)) (hg : base ≤ g)
      (hh : w.heap[g]? = some (.loop rec)) (hps : rec.params.toList = ps) (has : rec.assign = assign) (hbd : rec.body = body) (hst : rec.state = st) (hpd : rec.pending = pend) (hsz : rec.tmps.size = nt)
      (hc : ∀ (t : Nat), AR Z w β cr (look tm t) (rec.tmps.getD t undef))
      (hz : ∀ a, Z a → a.block ≠ g) : BoxR base Z w β cr fz b (.lp nt tm ps assign body st pend)

theorem blk_ownBlock (v : Value) (g : Nat) (h : v.ownBlock = some g) : blk v = some g := by
  cases v <;> simp [Value.ownBlock] at h
  case slice a n c => cases a <;> simp_all [blk]

/-- The world, as the abstract machine sees it. -/
structure WR (base : Nat) (w0 : World) (Z : Zone) (β : Nat → Value) (cr lv fz : Nat → Prop) (bx : Nat → Option Bx) (w : World) : Prop where
  below : Below base w0 w
  hbase : base ≤ w.heap.size
  zin : ∀ a, Z a → a.block < w.heap.size
  zsp : ∀ a, Z a → a.spot = none
  box : ∀ b, lv b → ∃ x, bx b = some x ∧ BoxR base Z w β cr fz b x
  dis : ∀ b b' g, lv b → lv b' → b ≠ b' → blk (β b) = some g → blk (β b') ≠ some g
  sub : ∀ b, lv b → cr b
  oth : KeepsOthers w0 w

theorem World.cell?_lt {w : World} {a : Addr} {v : Value} (h : w.cell? a = some v) : a.block < w.heap.size := World.block_lt_of_cell? w a h

/-- Old blocks are as they were: what was laid aside is so, too. -/
theorem ext_of_grown {Z : Zone} {w w' : World} {row : Option Nat} (hg : w.grownBy w' row) (hz : ∀ a, Z a → a.block < w.heap.size) (hr : ∀ a, Z a → some a.block ≠ row) : Ext Z Z w w' :=
  ⟨fun _ h => h, fun a ha => World.cell?_of_block (hg.block a.block (hz a ha) (hr a ha))⟩
theorem ext_of_below {Z : Zone} {w w' : World} (hb : Below w.heap.size w w') (hz : ∀ a, Z a → a.block < w.heap.size) : Ext Z Z w w' :=
  ⟨fun _ h => h, fun a ha => World.cell?_of_block (hb.block a.block (hz a ha))⟩

theorem BoxR.blk_base {base : Nat} {Z : Zone} {w : World} {β : Nat → Value} {cr fz : Nat → Prop} {b : Nat} {x : Bx} (h : BoxR base Z w β cr fz b x) {g : Nat} (hg : blk (β b) = some g) : base ≤ g ∧ g < w.heap.size := by
  cases h with
  | cells cs g' arr t hv hg' hh hl hc hz =>
    rw [hv] at hg
    simp only [blk, Option.some.injEq] at hg
    subst hg
    exact ⟨hg', (Array.getElem?_eq_some_iff.1 hh).1⟩
  | rows e sz rs inner ho hr hc ht hz =>
    rcases ho.2 with ⟨hv, _⟩ | ⟨g', cap, cur, hv, hb, hh, _⟩
    · rw [hv] at hg
      simp [blk] at hg
    · rw [hv] at hg
      simp only [blk, Option.some.injEq] at hg
      subst hg
      exact ⟨hb, (Array.getElem?_eq_some_iff.1 hh).1⟩
  | lp nt tm ps assign body st pend g' rec hv hg' hh =>
    rw [hv] at hg
    simp only [blk, Option.some.injEq] at hg
    subst hg
    exact ⟨hg', (Array.getElem?_eq_some_iff.1 hh).1⟩
theorem BoxR.isCells {base : Nat} {Z : Zone} {w : World} {β : Nat → Value} {cr fz : Nat → Prop} {b : Nat} {x : Bx} (h : BoxR base Z w β cr fz b x) (hnl : x.isLp = false) {g : Nat} (hg : blk (β b) = some g) : ∀ o, w.heap[g]? = some o → o.isCells = true := by
  cases h with
  | cells cs g' arr t hv hg' hh hl hc hz =>
    rw [hv] at hg
    simp only [blk, Option.some.injEq] at hg
    subst hg
    intro o ho
    rw [hh] at ho
    injection ho with ho
    subst ho
    rfl
  | rows e sz rs inner ho hr hc ht hz =>
    rcases ho.2 with ⟨hv, _⟩ | ⟨g', cap, cur, hv, hb, hh, _⟩
    · rw [hv] at hg
      simp [blk] at hg
    · rw [hv] at hg
      simp only [blk, Option.some.injEq] at hg
      subst hg
      intro o ho
      rw [hh] at ho
      injection ho with ho
      subst ho
      rfl
  | lp => simp [Bx.isLp] at hnl
theorem _root_.Go.KeepsOthers.of_below {w w' : World} (h : Below w.heap.size w w') : KeepsOthers w w' :=
  ⟨h.size, fun k o hk _ => (h.block k (Array.getElem?_eq_some_iff.1 hk).1).trans hk⟩
/-- A box whose block has not been written, in a later world. -/
theorem BoxR.ext {base : Nat} {Z Z' : Zone} {w w' : World} {β β' : Nat → Value} {cr cr' fz fz' : Nat → Prop} {b : Nat} {x : Bx} (h : BoxR base Z w β cr fz b x)
    (he : Ext Z Z' w w') (hb : ∀ b, cr b → cr' b ∧ β' b = β b) (hcb : cr b) (hblk : ∀ g, blk (β b) = some g → w'.heap[g]? = w.heap[g]?)
    (hf : ∀ g, blk (β b) = some g → ∀ a, Z' a → a.block = g → Z a ∨ fz' b ∧ x.isLp = false ∧ ∀ e sz rs, x = .rows e sz rs → a.off < rs.length * sz) (hff : fz b → fz' b) : BoxR base Z' w' β' cr' fz' b x := by
  have hbb := (hb b hcb).2
  cases h with
  | cells cs g arr t hv hg hh hl hc hz =>
    have e1 : blk (β b) = some g := by rw [hv]; rfl
    refine .cells cs g arr t (hbb.trans hv) hg ((hblk g e1).trans hh) hl (fun i x v h1 h2 => (hc i x v h1 h2).ext he hb) (fun hn a ha e => ?_)
    rcases hf g e1 a ha e with h | h
    · exact hz (fun hfb => hn (hff hfb)) a h e
    · exact hn h.1
  | rows e sz rs inner ho hr hc ht hz =>
    have ho' : w'.ownsRow base e sz (β' b) rs.length inner := by
      rw [hbb]
      refine ⟨ho.1, ?_⟩
      rcases ho.2 with h | ⟨g, cap, cur, hv, hbs, hh, hrest⟩
      · exact .inl h
      · refine .inr ⟨g, cap, cur, hv, hbs, (hblk g (by rw [hv]; rfl)).trans hh, hrest⟩
    refine .rows e sz rs inner ho' hr (fun j row i c v h1 h2 h3 => (hc j row i c v h1 h2 h3).ext he) (fun g hg a ha e1 => ?_) (fun hn g hg a ha e1 => ?_)
    · rw [hbb] at hg
      rcases hf g (blk_ownBlock _ _ hg) a ha e1 with h | h
      · exact ht g hg a h e1
      · exact h.2.2 _ _ _ rfl
    · rw [hbb] at hg
      rcases hf g (blk_ownBlock _ _ hg) a ha e1 with h | h
      · exact hz (fun hfb => hn (hff hfb)) g hg a h e1
      · exact hn h.1
  | lp nt tm ps assign body st pend g rec hv hg hh hps has hbd hst hpd hsz hc hz =>
    have e1 : blk (β b) = some g := by rw [hv]; rfl
    refine .lp nt tm ps assign body st pend g rec (hbb.trans hv) hg ((hblk g e1).trans hh) hps has hbd hst hpd hsz (fun t => (hc t).ext he hb) (fun a ha e => ?_)
    rcases hf g e1 a ha e with h | h
    · exact hz a h e
    · have := h.2.1; simp [Bx.isLp] at this

/-- A step that leaves all old blocks of the boxes alone and lays no new box. -/
theorem WR.still {base : Nat} {w0 : World} {Z : Zone} {β : Nat → Value} {cr lv fz : Nat → Prop} {bx : Nat → Option Bx} {w w' : World} (h : WR base w0 Z β cr lv fz bx w)
    (hb : Below w.heap.size w w') : WR base w0 Z β cr lv fz bx w' := by
  have he := ext_of_below hb h.zin
  refine ⟨h.below.trans (hb.mono h.hbase), Nat.le_trans h.hbase hb.size, fun a ha => Nat.lt_of_lt_of_le (h.zin a ha) hb.size, h.zsp, fun b hl => ?_, h.dis, h.sub, h.oth.trans (.of_below hb)⟩
  obtain ⟨x, hx, hB⟩ := h.box b hl
  exact ⟨x, hx, hB.ext he (fun b h => ⟨h, rfl⟩) (h.sub b hl) (fun g hg => hb.block g (hB.blk_base hg).2) (fun g hg a ha e => .inl ha) id⟩
theorem AR.still {Z : Zone} {w w' : World} {β : Nat → Value} {cr : Nat → Prop} {x : AV} {v : Value} (h : AR Z w β cr x v) (hb : Below w.heap.size w w') (hz : ∀ a, Z a → a.block < w.heap.size) : AR Z w' β cr x v :=
  h.ext (ext_of_below hb hz) (fun _ h => ⟨h, rfl⟩)
end Go.Vam
