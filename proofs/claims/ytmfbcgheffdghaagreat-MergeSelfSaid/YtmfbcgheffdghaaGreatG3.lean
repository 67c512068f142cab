/- An abstract machine over data (part 9): states, one operation upon a state, code. -/
import Derived.Test.YtmfbcgheffdghaaGreatG2
set_option linter.unusedSimpArgs false
set_option linter.unusedVariables false
namespace Go.Vam
open Go.RowKit
set_option linter.unusedVariables false
set_option linter.unusedSimpArgs false

/-! ### 1. States -/
/-- 'nt': how many temporaries there are; 'tm': what some of them hold, the newest first. -/
structure St where
  nt : Nat
  tm : List (Nat × AV)
  bx : List Bx
  dead : List Nat
  fz : List Nat
def evT (tm : List (Nat × AV)) : Operand → AV
  | .tmp t => look tm t
  | .const v => cAV v
  | .func f => .c (.fn f [])
  | .global _ => .any
def nthB : List Bx → Nat → Option Bx
  | [], _ => none
  | x :: _, 0 => some x
  | _ :: l, n + 1 => nthB l n
theorem nthB_eq (l : List Bx) (n : Nat) : nthB l n = l[n]? := by
  induction l generalizing n with
  | nil => rfl
  | cons x l ih => cases n <;> simp [nthB, ih]
def setBx : List Bx → Nat → Bx → List Bx
  | [], _, _ => []
  | _ :: l, 0, x => x :: l
  | y :: l, n + 1, x => y :: setBx l n x
theorem setBx_eq (l : List Bx) (n : Nat) (x : Bx) : setBx l n x = l.set n x := by
  induction l generalizing n with
  | nil => rfl
  | cons y l ih => cases n <;> simp [setBx, ih]
def putT (tm : List (Nat × AV)) : Option Nat → AV → List (Nat × AV)
  | none, _ => tm
  | some d, x => (d, x) :: tm
def dstOk (nt : Nat) : Option Nat → Bool
  | none => true
  | some d => decide (d < nt)
def addB (bx : List Bx) : Option Bx → List Bx
  | none => bx
  | some x => bx ++ [x]
def St.app (S : St) (dst : Option Nat) (e : Eff) : St := ⟨S.nt, putT S.tm dst e.res, addB S.bx e.nw, e.kill ++ S.dead, e.frz ++ S.fz⟩
def St.skip (S : St) (dst : Option Nat) : St := ⟨S.nt, putT S.tm dst .und, S.bx, S.dead, S.fz⟩

/-- Who runs: the program, its types, where one's own blocks begin, the world and the zone of the beginning. -/
structure En where
  P : Program
  tt : TT
  base : Nat
  w0 : World
  Z0 : Zone
  n0 : Nat
  rd : Option Nat := none
  mb : Nat := 0

/-- What a range over a function has left among the deferred calls is as it was laid. -/
structure KeepsD (w w' : World) : Prop where
  size : w.heap.size ≤ w'.heap.size
  same : ∀ (k : Nat), w.heap[k]? = some (.deferred (some [])) → w'.heap[k]? = some (.deferred (some []))
theorem KeepsD.refl (w : World) : KeepsD w w := ⟨Nat.le_refl _, fun _ h => h⟩
theorem KeepsD.trans {a b c : World} (h : KeepsD a b) (k : KeepsD b c) : KeepsD a c := ⟨Nat.le_trans h.size k.size, fun i hi => k.same i (h.same i hi)⟩
theorem KeepsD.of {w w' : World} (h : KeepsOthers w w') : KeepsD w w' := ⟨h.size, fun k hk => h.same k _ hk rfl⟩
def mark (D : Nat) : Deferred := { target := .collected D, args := #[] }
def Marks (mb : Nat) (a : Act) (w : World) : Prop := mb ≤ w.heap.size ∧ ∃ ms : List Nat, a.defers = ms.map mark ∧ ms.Nodup ∧ ∀ D ∈ ms, mb ≤ D ∧ w.heap[D]? = some (.deferred (some []))
theorem Marks.kept {mb : Nat} {a a' : Act} {w w' : World} (h : Marks mb a w) (ha : a'.defers = a.defers) (hk : KeepsD w w') : Marks mb a' w' := by
  obtain ⟨h0, ms, h1, h2, h3⟩ := h
  exact ⟨Nat.le_trans h0 hk.size, ms, ha.trans h1, h2, fun D hD => ⟨(h3 D hD).1, hk.same D (h3 D hD).2⟩⟩
theorem Marks.none {mb : Nat} {tmps : Array Value} {w : World} (h : mb ≤ w.heap.size) : Marks mb { tmps, defers := [] } w := ⟨h, [], rfl, .nil, by simp⟩
theorem put_defers (a : Act) (d : Option Tmp) (v : Value) : (a.put d v).defers = a.defers := by cases d <;> rfl
theorem WR.rebase {base : Nat} {w0 : World} {Z : Zone} {β : Nat → Value} {cr lv fz : Nat → Prop} {bx : Nat → Option Bx} {w : World} (h : WR base w0 Z β cr lv fz bx w) : WR base w Z β cr lv fz bx w :=
  ⟨.refl _ _, h.hbase, h.zin, h.zsp, h.box, h.dis, h.sub, .refl _⟩
theorem WR.join {base : Nat} {w0 : World} {Z Z' : Zone} {β β' : Nat → Value} {cr cr' lv lv' fz fz' : Nat → Prop} {bx bx' : Nat → Option Bx} {w w' : World} (h0 : WR base w0 Z β cr lv fz bx w) (h : WR base w Z' β' cr' lv' fz' bx' w') : WR base w0 Z' β' cr' lv' fz' bx' w' :=
  ⟨h0.below.trans h.below, h.hbase, h.zin, h.zsp, h.box, h.dis, h.sub, h0.oth.trans h.oth⟩
/-- A state of the machine, its parts as functions. -/
structure GSim (E : En) (nt : Nat) (tm : Nat → AV) (cr lv fz : Nat → Prop) (bx : Nat → Option Bx) (Z : Zone) (β : Nat → Value) (a : Act) (w : World) : Prop where
  wr : WR E.base E.w0 Z β cr lv fz bx w
  z0 : ∀ a, E.Z0 a → Z a
  zn : ∀ a, Z a → ¬ E.Z0 a → E.base ≤ a.block
  tsz : a.tmps.size = nt
  tr : ∀ (t : Nat), AR Z w β cr (tm t) (a.tmps.getD t undef)
  df : Marks E.mb a w
structure Sim (E : En) (S : St) (Z : Zone) (β : Nat → Value) (a : Act) (w : World) : Prop extends GSim E S.nt (look S.tm) (fun b => b < S.bx.length) (fun b => b < S.bx.length ∧ b ∉ S.dead) (fun b => b ∈ S.fz) (nthB S.bx) Z β a w where
  fl : ∀ b, b ∈ S.fz → b < S.bx.length
  dl : ∀ b, b ∈ S.dead → b < S.bx.length
/-- What has become of the world. -/
structure Evo (n : Nat) (Z : Zone) (β : Nat → Value) (Z' : Zone) (β' : Nat → Value) (w w' : World) : Prop where
  ext : Ext Z Z' w w'
  same : ∀ b, b < n → β' b = β b
  kd : KeepsD w w'
theorem Evo.refl (n : Nat) (Z : Zone) (β : Nat → Value) (w : World) : Evo n Z β Z β w w := ⟨.refl _ _, fun _ _ => rfl, .refl _⟩
theorem Evo.trans {n : Nat} {Z Z' Z'' : Zone} {β β' β'' : Nat → Value} {w w' w'' : World} (h : Evo n Z β Z' β' w w') (k : Evo n Z' β' Z'' β'' w' w'') : Evo n Z β Z'' β'' w w'' :=
  ⟨h.ext.trans k.ext, fun b hb => (k.same b hb).trans (h.same b hb), h.kd.trans k.kd⟩
theorem Evo.mono {n n' : Nat} {Z Z' : Zone} {β β' : Nat → Value} {w w' : World} (h : Evo n Z β Z' β' w w') (hn : n' ≤ n) : Evo n' Z β Z' β' w w' := ⟨h.ext, fun b hb => h.same b (Nat.lt_of_lt_of_le hb hn), h.kd⟩

theorem put_size (a : Act) (d : Option Tmp) (v : Value) : (a.put d v).tmps.size = a.tmps.size := by cases d <;> simp [Act.put]
theorem look_put (tm : List (Nat × AV)) (d : Option Nat) (x : AV) (t : Nat) : look (putT tm d x) t = if d = some t then x else look tm t := by
  cases d with
  | none => simp [putT]
  | some d => simp [putT, look]
theorem AR.evT {Z : Zone} {w : World} {β : Nat → Value} {cr : Nat → Prop} {tm : List (Nat × AV)} {a : Act} (h : ∀ t, AR Z w β cr (look tm t) (a.tmps.getD t undef)) (x : Operand) : AR Z w β cr (evT tm x) (a.eval x) := by
  cases x with
  | tmp t => exact h t
  | const v => exact .cAV v
  | global g => exact .any _
  | func f => exact AR.evA (tm := []) (a := a) (by simp) (.func f)
theorem put_get (a : Act) (d : Option Tmp) (v : Value) (t : Nat) (ht : t < a.tmps.size) : (a.put d v).tmps.getD t undef = if d = some t then v else a.tmps.getD t undef := by
  cases d with
  | none => simp [Act.put]
  | some d =>
    simp only [Act.put, Option.some.injEq]
    by_cases hd : d = t
    · subst hd; simp [ht]
    · simp [hd, Array.getElem?_setIfInBounds_ne hd]

theorem GSim.mono {E : En} {nt : Nat} {tm tm' : Nat → AV} {cr cr' lv lv' fz fz' : Nat → Prop} {bx bx' : Nat → Option Bx} {Z : Zone} {β : Nat → Value} {a : Act} {w : World} (h : GSim E nt tm cr lv fz bx Z β a w)
    (hc : ∀ b, cr b → cr' b) (hl : ∀ b, lv' b → lv b) (hf : ∀ b, fz b → fz' b) (hb : ∀ b, lv' b → bx' b = bx b) (ht : ∀ t, tm' t = tm t ∨ tm' t = .any) : GSim E nt tm' cr' lv' fz' bx' Z β a w :=
  ⟨h.wr.mono hc hl hf hb, h.z0, h.zn, h.tsz, fun t => by
    rcases ht t with e | e
    · rw [e]; exact (h.tr t).ext (Ext.refl _ _) (fun b hb => ⟨hc b hb, rfl⟩)
    · rw [e]; exact .any _, h.df⟩
/-- A step's result is put into its temporary. -/
theorem GSim.put {E : En} {nt : Nat} {tm : Nat → AV} {cr lv fz : Nat → Prop} {bx bx' : Nat → Option Bx} {nb : Nat} {Z : Zone} {β : Nat → Value} {a : Act} {w w' : World} {d : Option Nat} {e : Eff} {v : Value} (h : GSim E nt tm cr lv fz bx Z β a w)
    (hd : dstOk nt d = true) (hp : Post E.base w Z β cr lv fz bx' nb e w v w') :
    ∃ Z' β', GSim E nt (fun t => if d = some t then e.res else tm t) (fun b => cr b ∨ (b = nb ∧ e.nw.isSome = true)) (fun b => (lv b ∧ b ∉ e.kill) ∨ (b = nb ∧ e.nw.isSome = true)) (fun b => fz b ∨ b ∈ e.frz) bx' Z' β' (a.put d v) w' ∧
      Ext Z Z' w w' ∧ (∀ b, cr b → β' b = β b) ∧ KeepsD w w' := by
  obtain ⟨Z', β', he, hβ, hzb, hW, hv⟩ := hp
  have hkd : KeepsD w w' := .of hW.oth
  refine ⟨Z', β', ⟨h.wr.join hW, fun a ha => he.sub a (h.z0 a ha), fun a h1 h2 => ?_, by rw [put_size, h.tsz], fun t => ?_, h.df.kept (put_defers _ _ _) hkd⟩, he, hβ, hkd⟩
  · by_cases hz : Z a
    · exact h.zn a hz h2
    · exact hzb a h1 hz
  · by_cases hdt : d = some t
    · subst hdt
      have hlt : t < a.tmps.size := by rw [h.tsz]; simpa [dstOk] using hd
      rw [put_get _ _ _ _ hlt, if_pos rfl, if_pos rfl]
      exact hv
    · rw [if_neg hdt]
      have hold := (h.tr t).ext he (fun b hb => ⟨Or.inl hb, hβ b hb⟩) (cr' := fun b => cr b ∨ (b = nb ∧ e.nw.isSome = true))
      by_cases hlt : t < a.tmps.size
      · rwa [put_get _ _ _ _ hlt, if_neg hdt]
      · have e1 : (a.put d v).tmps.getD t undef = a.tmps.getD t undef := by
          have hs : ¬ t < (a.put d v).tmps.size := by rw [put_size]; exact hlt
          simp [Array.getElem?_eq_none (Nat.le_of_not_lt hlt), Array.getElem?_eq_none (Nat.le_of_not_lt hs)]
        rwa [e1]
theorem GSim.skip {E : En} {nt : Nat} {tm : Nat → AV} {cr lv fz : Nat → Prop} {bx : Nat → Option Bx} {Z : Zone} {β : Nat → Value} {a : Act} {w : World} {d : Option Nat} (h : GSim E nt tm cr lv fz bx Z β a w)
    (hd : dstOk nt d = true) : GSim E nt (fun t => if d = some t then .und else tm t) cr lv fz bx Z β (a.put d undef) w := by
  refine ⟨h.wr, h.z0, h.zn, by rw [put_size, h.tsz], fun t => ?_, h.df.kept (put_defers _ _ _) (.refl _)⟩
  · by_cases hdt : d = some t
    · subst hdt
      have hlt : t < a.tmps.size := by rw [h.tsz]; simpa [dstOk] using hd
      rw [put_get _ _ _ _ hlt, if_pos rfl, if_pos rfl]
      exact .und
    · rw [if_neg hdt]
      by_cases hlt : t < a.tmps.size
      · rw [put_get _ _ _ _ hlt, if_neg hdt]; exact h.tr t
      · have e1 : (a.put d undef).tmps.getD t undef = a.tmps.getD t undef := by
          have hs : ¬ t < (a.put d undef).tmps.size := by rw [put_size]; exact hlt
          simp [Array.getElem?_eq_none (Nat.le_of_not_lt hlt), Array.getElem?_eq_none (Nat.le_of_not_lt hs)]
        rw [e1]; exact h.tr t
theorem app_len (S : St) (d : Option Nat) (e : Eff) : (S.app d e).bx.length = S.bx.length + (if e.nw.isSome then 1 else 0) := by
  simp only [St.app]
  cases e.nw <;> simp [addB]
theorem app_bx (S : St) (d : Option Nat) (e : Eff) (b : Nat) (h : b < S.bx.length) : nthB (S.app d e).bx b = nthB S.bx b := by
  simp only [St.app, nthB_eq]
  cases e.nw with
  | none => rfl
  | some x => simp only [addB]; rw [List.getElem?_append_left h]
theorem app_bx_new (S : St) (d : Option Nat) (e : Eff) (y : Bx) (h : e.nw = some y) : nthB (S.app d e).bx S.bx.length = some y := by
  simp [St.app, nthB_eq, h, addB]
theorem Sim.put {E : En} {S : St} {Z : Zone} {β : Nat → Value} {a : Act} {w w' : World} {d : Option Nat} {e : Eff} {v : Value} (h : Sim E S Z β a w) (hd : dstOk S.nt d = true)
    (hp : Post E.base w Z β (fun b => b < S.bx.length) (fun b => b < S.bx.length ∧ b ∉ S.dead) (fun b => b ∈ S.fz) (nthB (S.app d e).bx) S.bx.length e w v w')
    (hfr : ∀ b ∈ e.frz, b < S.bx.length ∨ (b = S.bx.length ∧ e.nw.isSome = true)) (hk : ∀ b ∈ e.kill, b < S.bx.length) :
    ∃ Z' β', Sim E (S.app d e) Z' β' (a.put d v) w' ∧ Evo S.bx.length Z β Z' β' w w' ∧ S.bx.length ≤ (S.app d e).bx.length := by
  obtain ⟨Z', β', hg, he, hβ, hkd⟩ := h.toGSim.put hd hp
  have hlen := app_len S d e
  have hcr : ∀ b, (b < S.bx.length ∨ (b = S.bx.length ∧ e.nw.isSome = true)) ↔ b < (S.app d e).bx.length := fun b => by
    rw [hlen]
    cases e.nw <;> simp <;> omega
  refine ⟨Z', β', ⟨hg.mono (fun b hb => (hcr b).1 hb) (fun b hb => ?_) (fun b hb => ?_) (fun b hb => rfl) (fun t => .inl ?_), fun b hb => ?_, fun b hb => ?_⟩, ⟨he, hβ, hkd⟩, by rw [hlen]; omega⟩
  · obtain ⟨h1, h2⟩ := hb
    simp only [St.app, List.mem_append, not_or] at h2
    rcases (hcr b).2 h1 with h3 | h3
    · exact .inl ⟨⟨h3, h2.2⟩, h2.1⟩
    · exact .inr h3
  · simp only [St.app, List.mem_append]
    rcases hb with hb | hb
    · exact .inr hb
    · exact .inl hb
  · exact look_put _ _ _ _
  · simp only [St.app, List.mem_append] at hb
    rcases hb with hb | hb
    · exact (hcr b).1 (hfr b hb)
    · have := h.fl b hb; rw [hlen]; omega
  · simp only [St.app, List.mem_append] at hb
    rcases hb with hb | hb
    · have := hk b hb; rw [hlen]; omega
    · have := h.dl b hb; rw [hlen]; omega
theorem Sim.skip {E : En} {S : St} {Z : Zone} {β : Nat → Value} {a : Act} {w : World} {d : Option Nat} (h : Sim E S Z β a w) (hd : dstOk S.nt d = true) : Sim E (S.skip d) Z β (a.put d undef) w :=
  ⟨(h.toGSim.skip hd).mono (fun _ h => h) (fun _ h => h) (fun _ h => h) (fun _ _ => rfl) (fun t => .inl (look_put _ _ _ _)), h.fl, h.dl⟩
theorem Sim.evT {E : En} {S : St} {Z : Zone} {β : Nat → Value} {a : Act} {w : World} (h : Sim E S Z β a w) (x : Operand) : AR Z w β (fun b => b < S.bx.length) (evT S.tm x) (a.eval x) := AR.evT h.tr x

/-! ### 2. One operation upon a state -/
def LoclS (E : En) (o : Oper) (S : St) (e : Eff) : Prop := Locl E.P E.tt o (evT S.tm) (nthB S.bx) S.dead S.fz S.bx.length (fun e' => e' = e)
/-- What is asked behind a piece of code. -/
def After (E : En) (n : Nat) (Z : Zone) (β : Nat → Value) (w : World) (K : St → Prop) (a' : Act) (w' : World) : Prop :=
  ∃ S' Z' β', Sim E S' Z' β' a' w' ∧ Evo n Z β Z' β' w w' ∧ n ≤ S'.bx.length ∧ K S'
theorem After.trans {E : En} {n : Nat} {Z Z1 : Zone} {β β1 : Nat → Value} {w w1 w2 : World} {K : St → Prop} {a2 : Act} (h : Evo n Z β Z1 β1 w w1) (k : After E n Z1 β1 w1 K a2 w2) : After E n Z β w K a2 w2 := by
  obtain ⟨S', Z', β', h1, h2, h3, h4⟩ := k
  exact ⟨S', Z', β', h1, h.trans h2, h3, h4⟩
theorem After.mono {E : En} {n : Nat} {Z : Zone} {β : Nat → Value} {w w2 : World} {K K' : St → Prop} {a2 : Act} (k : After E n Z β w K a2 w2) (h : ∀ S, n ≤ S.bx.length → K S → K' S) : After E n Z β w K' a2 w2 := by
  obtain ⟨S', Z', β', h1, h2, h3, h4⟩ := k
  exact ⟨S', Z', β', h1, h2, h3, h S' h3 h4⟩
/-- An operation, run from a state, comes to a state of K. -/
def OpK (E : En) (o : Oper) (S : St) (K : St → Prop) : Prop :=
  ∀ Z β a w, Sim E S Z β a w → OpRun E.P o a w fun v w' => After E E.n0 Z β w K (a.put o.dst v) w'
theorem OpRun.mono {P : Program} {o : Oper} {a : Act} {w : World} {R R' : Value → World → Prop} (h : OpRun P o a w R) (hk : ∀ v w', R v w' → R' v w') : OpRun P o a w R' := by
  unfold OpRun at h ⊢
  cases hx : (execOp a.eval o).run P w with
  | ok n w' =>
    rw [hx] at h
    cases n <;> simp only at h ⊢
    case value v => exact hk _ _ h
    case skip => exact hk _ _ h
    case enter f args => exact h.mono fun e w'' ⟨v, he, hR⟩ => ⟨v, he, hk _ _ hR⟩
    case round l f tmps assign body => exact h.mono fun e w'' ⟨v, he, hR⟩ => ⟨v, he, hk _ _ hR⟩
  | halt x w' => rw [hx] at h; exact h.elim
theorem OpK.mono {E : En} {o : Oper} {S : St} {K K' : St → Prop} (h : OpK E o S K) (hk : ∀ S, E.n0 ≤ S.bx.length → K S → K' S) : OpK E o S K' :=
  fun Z β a w hs => (h Z β a w hs).mono fun v w' ha => ha.mono hk
theorem OpK.loc {E : En} (hT : TOk E.P E.tt) {o : Oper} {S : St} {e : Eff} {K : St → Prop} (hn : E.n0 ≤ S.bx.length) (hd : dstOk S.nt o.dst = true) (h : LoclS E o S e) (hK : K (S.app o.dst e)) : OpK E o S K := fun Z β a w hs => by
  have hW : WR E.base w Z β (fun b => b < S.bx.length) (fun b => b < S.bx.length ∧ b ∉ S.dead) (fun b => b ∈ S.fz) (nthB (S.app o.dst e).bx) w := hs.wr.rebase.mono (fun _ h => h) (fun _ h => h) (fun _ h => h) (fun b hb => app_bx S o.dst e b hb.1)
  obtain ⟨hfr, hk, hr⟩ := loc_sound (a := a) (w := w) (bxR := nthB S.bx) (deadl := S.dead) (fzl := S.fz) (nb := S.bx.length) hT h hW (fun x _ => hs.evT x) (fun y hy => ⟨by simp, fun hc => by have := hs.fl _ hc; omega, app_bx_new S o.dst e y hy⟩)
    (fun _ x _ b _ hb => ⟨app_bx S o.dst e b hb, fun hnd => ⟨hb, hnd⟩, fun _ h => h⟩)
  refine hr.mono fun v w' hp => ?_
  obtain ⟨Z', β', h1, h2, h3⟩ := hs.put hd hp hfr hk
  exact ⟨_, Z', β', h1, h2.mono hn, Nat.le_trans hn h3, hK⟩

/-! ### 3. A store upon a state -/
def St.setB (S : St) (d : Option Nat) (b : Nat) (x : Bx) : St := ⟨S.nt, putT S.tm d .und, setBx S.bx b x, S.dead, S.fz⟩
theorem OpK.ofStore {E : En} {o : Oper} {S : St} {K : St → Prop} {b : Nat} {x' : Bx} (hn : E.n0 ≤ S.bx.length) (hd : dstOk S.nt o.dst = true) (hb : b < S.bx.length)
    (h : ∀ Z β a w, Sim E S Z β a w → ∃ w', (execOp a.eval o).run E.P w = .ok .skip w' ∧ WR E.base w Z β (fun b => b < S.bx.length) (fun b => b < S.bx.length ∧ b ∉ S.dead) (fun b => b ∈ S.fz) (upd (nthB S.bx) b (some x')) w' ∧ Ext Z Z w w')
    (hK : K (S.setB o.dst b x')) : OpK E o S K := fun Z β a w hs => by
  obtain ⟨w', hr, hW, he⟩ := h Z β a w hs
  unfold OpRun
  rw [hr]
  have hg : GSim E S.nt (look S.tm) (fun b => b < S.bx.length) (fun b => b < S.bx.length ∧ b ∉ S.dead) (fun b => b ∈ S.fz) (upd (nthB S.bx) b (some x')) Z β a w' :=
    ⟨hs.wr.join hW, hs.z0, hs.zn, hs.tsz, fun t => (hs.tr t).ext he (fun b hb => ⟨hb, rfl⟩), hs.df.kept rfl (.of hW.oth)⟩
  have hlen : (S.setB o.dst b x').bx.length = S.bx.length := by simp [St.setB, setBx_eq]
  have hS : Sim E (S.setB o.dst b x') Z β (a.put o.dst undef) w' := by
    refine ⟨(hg.skip hd).mono (fun b h => by rw [hlen]; exact h) (fun b h => by rw [hlen] at h; exact h) (fun _ h => h) (fun b' hb' => ?_) (fun t => .inl (look_put _ _ _ _)), fun b hb => by rw [hlen]; exact hs.fl b hb, fun b hb => by rw [hlen]; exact hs.dl b hb⟩
    simp only [St.setB, nthB_eq, setBx_eq, upd]
    by_cases hbb : b' = b
    · subst hbb
      rw [List.getElem?_set_self hb, if_pos rfl]
    · rw [List.getElem?_set_ne (fun e => hbb e.symm), if_neg hbb]
  exact ⟨_, Z, β, hS, ⟨he, fun _ _ => rfl, .of hW.oth⟩, by rw [hlen]; exact hn, hK⟩
theorem OpK.storePtr {E : En} (hT : TOk E.P E.tt) {o : Oper} {S : St} {K : St → Prop} {t : TypeId} {x y : Operand} {i : TyI} {b off : Nat} {cs m : List AV} (ho : o.op = .store t x y) (hn : E.n0 ≤ S.bx.length) (hd : dstOk S.nt o.dst = true)
    (hti : E.tt t = some i) (hx : Vam.evT S.tm x = .ptr b off) (hdead : b ∉ S.dead) (hfz : b ∉ S.fz) (hbx : nthB S.bx b = some (.cells cs)) (hm : stOf (nthB S.bx) S.dead (Vam.evT S.tm y) = some m) (hml : m.length = i.n) (hlen : off + i.n ≤ cs.length)
    (hK : K (S.setB o.dst b (.cells (cs.take off ++ m ++ cs.drop (off + m.length))))) : OpK E o S K := by
  have hb : b < S.bx.length := by rw [nthB_eq] at hbx; exact (List.getElem?_eq_some_iff.1 hbx).1
  refine .ofStore hn hd hb (fun Z β a w hs => ?_) hK
  have hx' := hs.evT x
  rw [hx] at hx'
  exact op_storePtr (P := E.P) ho (hT t i hti) hml hlen hs.wr.rebase (fun b h1 h2 => ⟨h1, h2⟩) hx' ⟨hb, hdead⟩ hbx hfz (hs.evT y) hm
theorem OpK.storeOptr {E : En} (hT : TOk E.P E.tt) {o : Oper} {S : St} {K : St → Prop} {t : TypeId} {x y : Operand} {i : TyI} {b off e sz j : Nat} {rs : List (List C)} {row m : List C} (ho : o.op = .store t x y) (hn : E.n0 ≤ S.bx.length) (hd : dstOk S.nt o.dst = true)
    (hti : E.tt t = some i) (hx : Vam.evT S.tm x = .optr b off) (hdead : b ∉ S.dead) (hfz : b ∉ S.fz) (hbx : nthB S.bx b = some (.rows e sz rs)) (hm : rowOf (Vam.evT S.tm y) = some m) (hrow : rs[j]? = some row) (hml : m.length = i.n) (hj : j * sz ≤ off) (hlen : off - j * sz + i.n ≤ row.length)
    (hK : K (S.setB o.dst b (.rows e sz (rs.set j (row.take (off - j * sz) ++ m ++ row.drop (off - j * sz + m.length)))))) : OpK E o S K := by
  have hb : b < S.bx.length := by rw [nthB_eq] at hbx; exact (List.getElem?_eq_some_iff.1 hbx).1
  refine .ofStore hn hd hb (fun Z β a w hs => ?_) hK
  have hx' := hs.evT x
  rw [hx] at hx'
  exact op_storeOptr (P := E.P) ho (hT t i hti) hml hrow hj hlen hs.wr.rebase hx' ⟨hb, hdead⟩ hbx hfz (hs.evT y) hm

/-! ### 4. Operations in the text's order -/
def nthD : List (Option Nat) → Nat → Option Nat
  | [], _ => none
  | x :: _, 0 => x
  | _ :: l, n + 1 => nthD l n
theorem nthD_eq (l : List (Option Nat)) (n : Nat) : nthD l n = (l[n]?).bind id := by
  induction l generalizing n with
  | nil => rfl
  | cons x l ih => cases n <;> simp [nthD, ih]
/-- Whether an operation is run: what its guard tells. -/
def guardV (ds : List (Option Nat)) (tm : List (Nat × AV)) (g : Option (Nat × Bool)) (r : Bool) : Prop :=
  match g with
  | none => r = true
  | some (j, want) => ∃ t, nthD ds j = some t ∧ ((∃ b, look tm t = .c (.sc (.bool b)) ∧ r = (b == want)) ∨ (look tm t = .und ∧ r = false))
/-- 'm': 0 the guard is asked, 2 the first one is left out, else it is run. -/
def OpsK (E : En) (ds : List (Option Nat)) : Nat → List Oper → St → (St → Prop) → Prop
  | _, [], S, K => K S
  | m, o :: l, S, K => ∃ r, (match m with | 0 => guardV ds S.tm o.guard r | 2 => r = false | _ => r = true) ∧
      (r = true → OpK E o S fun S' => OpsK E ds 0 l S' K) ∧ (r = false → dstOk S.nt o.dst = true ∧ OpsK E ds 0 l (S.skip o.dst) K)
theorem guardV_spec {ops : Array Oper} {o : Oper} {tm : Nat → AV} {tml : List (Nat × AV)} {r : Bool} {a : Act} (h : guardV (ops.toList.map (·.dst)) tml o.guard r)
    (hA : ∀ j want t, o.guard = some (j, want) → nthD (ops.toList.map (·.dst)) j = some t → (∀ b, look tml t = .c (.sc (.bool b)) → a.tmps.getD t undef = .bool b) ∧ (look tml t = .und → a.tmps.getD t undef = undef)) : Region.wanted o (yielded ops a.tmps) = r := by
  unfold guardV at h
  cases hg : o.guard with
  | none =>
    rw [hg] at h
    simp only at h
    rw [h]
    simp [Region.wanted, hg]
  | some jw =>
    obtain ⟨j, want⟩ := jw
    rw [hg] at h
    simp only at h
    obtain ⟨t, ht, h⟩ := h
    obtain ⟨a1, a2⟩ := hA j want t hg ht
    have hdst : ((ops[j]?).bind (·.dst)) = some t := by
      rw [nthD_eq, List.getElem?_map, Array.getElem?_toList] at ht
      cases ho : ops[j]? with
      | none => rw [ho] at ht; simp at ht
      | some oo => rw [ho] at ht; simpa using ht
    have hy : yielded ops a.tmps j = match a.tmps.getD t undef with | .bool b => some b | _ => none := by
      unfold yielded
      rw [hdst]
      simp only [Option.bind_some]
      by_cases hlt : t < a.tmps.size
      · have e1 : a.tmps.getD t undef = a.tmps[t] := by simp [hlt]
        rw [e1, Array.getElem?_eq_getElem hlt]
        generalize a.tmps[t] = v
        cases v <;> rfl
      · simp [hlt, undef]
    rcases h with ⟨b, hb, rfl⟩ | ⟨hb, rfl⟩
    · simp only [Region.wanted, hg, hy, a1 b hb]
      cases b <;> cases want <;> rfl
    · have hu := a2 hb
      simp only [Region.wanted, hg, hy, hu]
      cases want <;> rfl
theorem AR.bool_inv {Z : Zone} {w : World} {β : Nat → Value} {cr : Nat → Prop} {b : Bool} {v : Value} (h : AR Z w β cr (.c (.sc (.bool b))) v) : v = .bool b := h.sc_inv.1
theorem AR.und_inv {Z : Zone} {w : World} {β : Nat → Value} {cr : Nat → Prop} {v : Value} (h : AR Z w β cr .und v) : v = undef := by cases h; rfl
theorem OpsK.sound {E : En} {ops : Array Oper} {Q : Exit → Act → World → Prop} : ∀ (l : List Oper) {S : St} {K : St → Prop} {Z : Zone} {β : Nat → Value} {a : Act} {w : World}, E.n0 ≤ S.bx.length →
    OpsK E (ops.toList.map (·.dst)) 0 l S K → Sim E S Z β a w → (∀ a' w', After E E.n0 Z β w K a' w' → Q .normal a' w') → wpListIn (fenceR E.rd) 0 E.P ops Q l a w
  | [], S, K, Z, β, a, w, hn, h, hs, hq => hq a w ⟨S, Z, β, hs, .refl _ _ _ _, hn, h⟩
  | o :: rest, S, K, Z, β, a, w, hn, h, hs, hq => by
    unfold OpsK at h
    obtain ⟨r, hg, h1, h2⟩ := h
    have hw : Region.wanted o (yielded ops a.tmps) = r := guardV_spec (tm := look S.tm) hg fun j want t _ _ => ⟨fun b hb => by
      have := hs.tr t; rw [hb] at this; exact this.bool_inv, fun hb => by have := hs.tr t; rw [hb] at this; exact this.und_inv⟩
    unfold wpListIn
    rw [hw]
    cases r with
    | true =>
      simp only [if_true]
      refine ((h1 rfl Z β a w hs).wp fun v w' ⟨S', Z', β', k1, k2, k3, k4⟩ => ?_)
      exact OpsK.sound rest k3 k4 k1 fun a' w'' hA => hq a' w'' (hA.trans k2)
    | false =>
      simp only [Bool.false_eq_true, if_false]
      refine ⟨fun _ _ => trivial, ?_⟩
      exact OpsK.sound rest (S := S.skip o.dst) hn (h2 rfl).2 (hs.skip (h2 rfl).1) hq

/-! ### 5. Code -/
def AWP (E : En) (c : Code) (S : St) (Q : Exit → St → Prop) : Prop :=
  ∀ Z β a w, Sim E S Z β a w → c.wpIn (fenceR E.rd) 0 E.P (fun e a' w' => After E E.n0 Z β w (Q e) a' w') a w
def seqK (k : St → Prop) (Q : Exit → St → Prop) : Exit → St → Prop
  | .normal, S => k S
  | e, S => Q e S
def blockK (id : Nat) (Q : Exit → St → Prop) : Exit → St → Prop
  | .exit id', S => if id' = id then Q .normal S else Q (.exit id') S
  | e, S => Q e S
theorem AWP.mono {E : En} {c : Code} {S : St} {Q Q' : Exit → St → Prop} (h : AWP E c S Q) (hq : ∀ e S, E.n0 ≤ S.bx.length → Q e S → Q' e S) : AWP E c S Q' :=
  fun Z β a w hs => wpIn_mono (h Z β a w hs) fun e a' w' ⟨S', Z', β', h1, h2, h3, h4⟩ => ⟨S', Z', β', h1, h2, h3, hq _ _ h3 h4⟩
theorem AWP.seq {E : En} {x y : Code} {S : St} {Q : Exit → St → Prop} (h : AWP E x S (seqK (fun S' => AWP E y S' Q) Q)) : AWP E (.seq x y) S Q := fun Z β a w hs => by
  refine wpIn_seq (wpIn_mono (h Z β a w hs) fun e a' w' ⟨S', Z', β', h1, h2, h3, h4⟩ => ?_)
  cases e with
  | normal => exact wpIn_mono (h4 Z' β' a' w' h1) fun e a'' w'' k => k.trans h2
  | exit id => exact ⟨S', Z', β', h1, h2, h3, h4⟩
  | goto l => exact ⟨S', Z', β', h1, h2, h3, h4⟩
  | ret => exact ⟨S', Z', β', h1, h2, h3, h4⟩
  | panic c => exact ⟨S', Z', β', h1, h2, h3, h4⟩
  | outgrown => exact ⟨S', Z', β', h1, h2, h3, h4⟩
theorem AWP.block {E : En} {id : Nat} {x : Code} {S : St} {Q : Exit → St → Prop} (h : AWP E x S (blockK id Q)) : AWP E (.block id x) S Q := fun Z β a w hs => by
  refine wpIn_block (wpIn_mono (h Z β a w hs) fun e a' w' ⟨S', Z', β', h1, h2, h3, h4⟩ => ?_)
  cases e with
  | exit id' =>
    simp only [Exit.inBlock]
    simp only [blockK] at h4
    by_cases hid : id' = id
    · rw [if_pos hid] at h4 ⊢; exact ⟨S', Z', β', h1, h2, h3, h4⟩
    · rw [if_neg hid] at h4 ⊢; exact ⟨S', Z', β', h1, h2, h3, h4⟩
  | normal => exact ⟨S', Z', β', h1, h2, h3, h4⟩
  | goto l => exact ⟨S', Z', β', h1, h2, h3, h4⟩
  | ret => exact ⟨S', Z', β', h1, h2, h3, h4⟩
  | panic c => exact ⟨S', Z', β', h1, h2, h3, h4⟩
  | outgrown => exact ⟨S', Z', β', h1, h2, h3, h4⟩
theorem AWP.here {E : En} {c : Code} {S : St} {Q : Exit → St → Prop} {e : Exit} (hn : E.n0 ≤ S.bx.length) (hw : ∀ a w (R : Exit → Act → World → Prop), R e a w → c.wpIn (fenceR E.rd) 0 E.P R a w) (h : Q e S) : AWP E c S Q :=
  fun Z β a w hs => hw a w _ ⟨S, Z, β, hs, .refl _ _ _ _, hn, h⟩
theorem AWP.cond {E : En} {c : Operand} {x y : Code} {S : St} {Q : Exit → St → Prop} {b : Bool} (hb : evT S.tm c = .c (.sc (.bool b))) (h1 : b = true → AWP E x S Q) (h2 : b = false → AWP E y S Q) : AWP E (.cond c x y) S Q := fun Z β a w hs => by
  have hv := hs.evT c
  rw [hb] at hv
  refine wpIn_cond hv.bool_inv ?_
  cases b
  · exact h2 rfl Z β a w hs
  · exact h1 rfl Z β a w hs
theorem AWP.region {E : En} {id : Nat} {ops : Array Oper} {S : St} {Q : Exit → St → Prop} (hn : E.n0 ≤ S.bx.length) (h : OpsK E (ops.toList.map (·.dst)) 0 ops.toList S (fun S' => Q .normal S')) : AWP E (.region id ops false) S Q := fun Z β a w hs =>
  wpIn_region_list (OpsK.sound ops.toList hn h hs fun a' w' hA => hA)
end Go.Vam

