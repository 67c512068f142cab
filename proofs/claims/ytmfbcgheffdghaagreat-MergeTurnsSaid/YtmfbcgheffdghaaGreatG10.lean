/- An abstract machine over data (part 25): calls handed nil as nil; cap of nil, nil cut, zeros behind nil. -/
import Derived.Test.YtmfbcgheffdghaaGreatG9
import Derived.Lib.AppendZeros
import Derived.Test.YtmfbcgheffdghaaGreatG5
set_option linter.unusedSimpArgs false
set_option linter.unusedVariables false
namespace Go.Vam
open Go.RowKit
set_option linter.unusedVariables false
set_option linter.unusedSimpArgs false
section
variable {E : En} {Q : Exit → St → Prop} {o : Oper} {l : List Oper} {ds : List (Option Nat)} {ks : List Fr} {S : St}
theorem Go.post (hE : EOk E) {e : Eff} (n : Nat) (hfr : ∀ b ∈ e.frz, b < S.bx.length ∨ (b = S.bx.length ∧ e.nw.isSome = true)) (hk : ∀ b ∈ e.kill, b < S.bx.length)
    (h : ∀ Z β a w, Sim E S Z β a w → WR E.base w Z β (fun b => b < S.bx.length) (fun b => b < S.bx.length ∧ b ∉ S.dead) (fun b => b ∈ S.fz) (nthB (S.app o.dst e).bx) w →
      OpRun E.P o a w (Post E.base w Z β (fun b => b < S.bx.length) (fun b => b < S.bx.length ∧ b ∉ S.dead) (fun b => b ∈ S.fz) (nthB (S.app o.dst e).bx) S.bx.length e w))
    (k : evF E Q n (.ops 0 l ds none :: ks) (S.app o.dst e)) : HardOp E Q o l ds none ks S := fun hdst hn =>
  HardOp.opK (K := fun S' => S' = S.app o.dst e) (OpK.ofPost hn hdst hfr hk h rfl) (fun S' h => by subst h; exact evF_sound hE n _ _ k) hn
theorem nilV {Z : Zone} {w : World} {β : Nat → Value} {cr : Nat → Prop} {v : Value} (h : AR Z w β cr .nil v) : v = .slice none 0 0 := by cases h; rfl
theorem HardOp.capNil (hE : EOk E) {tt' : TT} (ht : E.tt = tt') {x : Operand} {t e : TypeId} {i : TyI} (n : Nat) (hop : o.op = .call { callee := .builtin .cap, args := #[x], argTypes := #[t] }) (hi : tt' t = some i) (hsl : i.sl = some e) (hx : evT S.tm x = .nil)
    (k : evF E Q n (.ops 0 l ds none :: ks) (S.app o.dst { res := .c (.sc (.int .i64 0)) })) : HardOp E Q o l ds none ks S :=
  Go.post hE n (by simp) (by simp) (fun Z β a w hs hW => by
    have e1 := hs.evT x
    rw [hx] at e1
    have hu := (tyOk_spec (hE.1 t i (by rw [ht]; exact hi))).2.2.1 e hsl
    refine op_quiet (v := .int .i64 0) hW ?_ (.c _ _ (.sc _ rfl))
    simp [execOp, hop, resolve, invoke, builtin, nilV e1, Builtin.cap_, underlying, hu, goInt]) k
theorem HardOp.sliceNil (hE : EOk E) {tt' : TT} (ht : E.tt = tt') {x y : Operand} {t e : TypeId} {i ie : TyI} (n : Nat) (hop : o.op = .slice t x none (some y) none) (hi : tt' t = some i) (hsl : i.sl = some e) (hie : tt' e = some ie) (hx : evT S.tm x = .nil) (hy : evT S.tm y = .c (.sc (.int .i64 0)))
    (k : evF E Q n (.ops 0 l ds none :: ks) (S.app o.dst { res := .nil })) : HardOp E Q o l ds none ks S :=
  Go.post hE n (by simp) (by simp) (fun Z β a w hs hW => by
    have e1 := hs.evT x
    rw [hx] at e1
    have e2 := hs.evT y
    rw [hy] at e2
    have hu := (tyOk_spec (hE.1 t i (by rw [ht]; exact hi))).2.2.1 e hsl
    obtain ⟨inf, hinf, hinfn, _⟩ := (tyOk_spec (hE.1 e ie (by rw [ht]; exact hie))).2.1
    refine op_quiet (v := .slice none 0 0) hW ?_ .nil
    have hU : (underlying t).run E.P w = .ok (.slice e) w := by simp [underlying, hu]
    have hS : (sizeOf e).run E.P w = .ok ie.n w := by simp [sizeOf, typeInfo, hinf, hinfn]
    have hB : (Instr.sliceBounds true 0 0 none (some (.int .i64 0)) none).run E.P w = .ok (0, 0, 0) w := by simp [Instr.sliceBounds, Instr.sliceBound, asIntOf]
    simp only [execOp, hop, nilV e1, e2.sc_inv.1, Option.map_none, Option.map_some, Instr.sliceAt, Instr.slice, Sem.run_bind, hU, hS, hB, Result.andThen_ok, Sem.run_pure]
    rfl) k
theorem size_emp (s : ByteArray) (h : s.size = 0) : s = ⟨#[]⟩ := by
  obtain ⟨a⟩ := s
  have ha : a = #[] := Array.eq_empty_of_size_eq_zero h
  rw [ha]
theorem zeroCells_one (u : Value) (n : Nat) : (Builtin.zeroCells #[u] n).toList = List.replicate n u := by
  refine List.ext_getElem (by simp [Builtin.zeroCells]) fun i h1 h2 => ?_
  simp [Builtin.zeroCells, Nat.mod_one]
/-- Zeros behind nil, each of one cell. -/
theorem HardOp.growNil (hE : EOk E) {tt' : TT} (ht : E.tt = tt') {x y : Operand} {t t' e : TypeId} {i ie : TyI} {kn : IntKind} {m : Nat} (n : Nat) (hop : o.op = .call { callee := .builtin .append, args := #[x, y], argTypes := #[t, t'] }) (hi : tt' t = some i) (hsl : i.sl = some e) (hie : tt' e = some ie)
    (hkn : E.P.underlying t' = some (.int kn)) (hn1 : ie.n = 1) (hz : ie.zero = [.c (.sc (.string ⟨#[]⟩))]) (h0 : 0 < ie.bytes) (hx : evT S.tm x = .nil) (hy : evT S.tm y = .c (.sc (.int .i64 m))) (hm : 0 < m) (hb : m * ie.bytes ≤ 140737488355328)
    (k : evF E Q n (.ops 0 l ds none :: ks) (S.app o.dst { res := .own S.bx.length, nw := some (.rows e 1 (List.replicate m [.sc (.string ⟨#[]⟩)])) })) : HardOp E Q o l ds none ks S :=
  Go.post hE n (by simp) (by simp) (fun Z β a w hs hW => by
    have e1 := hs.evT x
    rw [hx] at e1
    have e2 := hs.evT y
    rw [hy] at e2
    have hu := (tyOk_spec (hE.1 t i (by rw [ht]; exact hi))).2.2.1 e hsl
    obtain ⟨inf, hinf, hinfn, hinfb, hzero⟩ := (tyOk_spec (hE.1 e ie (by rw [ht]; exact hie))).2.1
    obtain ⟨z, hz1, hz2, hz3, hz4⟩ := hzero (by rw [hz]; simp)
    rw [hn1] at hz2
    have hmb : m ≤ 140737488355328 := Nat.le_trans (Nat.le_mul_of_pos_right m h0) hb
    have hzc : z.cells = #[.string ⟨#[]⟩] := by
      obtain ⟨v, hv⟩ := Array.size_eq_one_iff.1 hz2
      have := (hz4 0 _ v (by rw [hz]; rfl) (by rw [hv]; rfl)).1
      rw [hv]
      cases v <;> try (simp [isZeroOf] at this; done)
      rename_i s
      have h2 : s.size = 0 := by
        simp only [isZeroOf, Bool.and_eq_true, beq_iff_eq] at this
        exact this.2
      rw [size_emp _ h2]
    have hr := Lib.run_append_nil_zeros (P := E.P) w t t' o.type e inf z .i64 kn hu hkn hinf hz1 m hm (by omega) (by omega) (by rw [hinfb]; omega)
    have hg : w.grownBy (w.drew.alloc (.cells (Builtin.zeroCells z.cells m ++ Builtin.zeroCells z.cells (grownCap w m 0 e - m)) e)) none := ⟨rfl, rfl, rfl, by simp, fun k hk _ => heap_alloc_old w.drew _ hk⟩
    have he : Ext Z Z w (w.drew.alloc (.cells (Builtin.zeroCells z.cells m ++ Builtin.zeroCells z.cells (grownCap w m 0 e - m)) e)) := ext_of_grown hg hW.zin (fun a _ => by simp)
    refine .value (v := .slice (some ⟨w.heap.size, 0, none⟩) m (grownCap w m 0 e)) (w' := w.drew.alloc (.cells (Builtin.zeroCells z.cells m ++ Builtin.zeroCells z.cells (grownCap w m 0 e - m)) e)) ?_ ?_
    · simp only [execOp, hop, resolve, invoke, builtin, Sem.run_bind, Sem.run_pure, Result.andThen_ok, List.map_toArray, List.map_cons, List.map_nil, nilV e1, e2.sc_inv.1, hr]
    · have hge := grownCap_ge w m 0 e
      have hlist : (Builtin.zeroCells z.cells m ++ Builtin.zeroCells z.cells (grownCap w m 0 e - m)).toList = List.replicate (grownCap w m 0 e) (.string ⟨#[]⟩) := by
        rw [Array.toList_append, hzc, zeroCells_one, zeroCells_one, List.replicate_append_replicate]
        congr 1; omega
      refine Post.alloc (u := .slice (some ⟨w.heap.size, 0, none⟩) m (grownCap w m 0 e)) hW (by simp) (by simp [St.app, addB, nthB_eq]) hg (fun g h => by simp [blk] at h; omega) (fun β' cr' fz' hb hc hu' => ?_) (fun β' cr' hb hc hu' => by rw [← hu']; exact .own _ hc)
      refine .rows e 1 _ (List.replicate m (.string ⟨#[]⟩)) ?_ (fun j row hj => ?_) (fun j row i c v h1 h2 h3 => ?_) (fun g hg' a ha e1 => ?_) (fun _ g hg' a ha e1 => ?_)
      · rw [hu', List.length_replicate]
        refine ⟨by simp, .inr ⟨w.heap.size, _, _, rfl, hW.hbase, heap_alloc_new w.drew _, hge, grownCap_le_maxLen w m 0 e (by simp only [maxLen]; omega), ?_, ?_⟩⟩
        · have := congrArg List.length hlist
          simpa using this
        · rw [hlist, List.take_replicate]
          congr 1; omega
      · have := List.eq_of_mem_replicate (List.mem_of_getElem? hj)
        subst this; rfl
      · have := List.eq_of_mem_replicate (List.mem_of_getElem? h1)
        subst this
        have hv := List.eq_of_mem_replicate (List.mem_of_getElem? h3)
        subst hv
        have hi0 : i = 0 := by
          have := (List.getElem?_eq_some_iff.1 h2).1
          simpa using this
        subst hi0
        simp only [List.getElem?_cons_zero, Option.some.injEq] at h2
        subst h2
        exact .sc _ rfl
      · rw [hu'] at hg'
        simp [Value.ownBlock] at hg'
        have := hW.zin a ha
        omega
      · rw [hu'] at hg'
        simp [Value.ownBlock] at hg'
        have := hW.zin a ha
        omega) k
/-- The first ones, and no room behind them. -/
theorem HardOp.slice3 (hE : EOk E) {dr : Dr} {tt' : TT} (ht : E.tt = tt') {x y z : Operand} {t e : TypeId} {i ie : TyI} {rows : List (List C)} {k1 k2 : IntKind} {h m : Int} (n : Nat) (hop : o.op = .slice t x none (some y) (some z)) (hi : tt' t = some i) (hsl : i.sl = some e) (hie : tt' e = some ie)
    (hx : evT S.tm x = .c (.sl rows)) (hy : evT S.tm y = .c (.sc (.int k1 h))) (hz : evT S.tm z = .c (.sc (.int k2 m))) (hr : rowLen ie.n rows) (h0 : 0 ≤ h) (h1 : h ≤ m) (h2 : m ≤ rows.length)
    (k : evF E Q n (.ops 0 l ds (advT dr o S { res := .c (.sl (rows.take h.toNat)) }) :: ks) (S.app o.dst { res := .c (.sl (rows.take h.toNat)) })) : HardOp E Q o l ds dr ks S := fun hdst => by
  refine GoK.loc hE ?_ hdst (evF_sound hE n _ _ k)
  unfold LoclS Locl
  rw [hop]
  simp only [hx, ht]
  exact ⟨i, e, ie, hi, hsl, hie, hr, h, by rw [hy]; rfl, by omega, h0, by omega, by simp, ⟨m, by rw [hz]; rfl, h1, h2⟩, rfl⟩
/-- What a call is handed, nil kept as nil. -/
def thawN (bx : Nat → Option Bx) : AV → AV
  | .nil => .nil
  | x => thawF bx x
theorem thawN_or (bx : Nat → Option Bx) (x : AV) : thawN bx x = thawF bx x ∨ (x = .nil ∧ thawN bx x = .nil) := by
  unfold thawN
  split
  · exact .inr ⟨rfl, rfl⟩
  · exact .inl rfl
theorem CallG.own0 (hE : EOk E) {P : Program} (hP : E.P = P) {g : FuncId} {raw args : List AV} {e sz : Nat} {rs : List (List C)} (n : Nat) (hok : Ok P g args (.own e sz rs)) (ha : (raw.map (thawN (nthB S.bx))) = args) (hd : (raw.flatMap frzOf) = [])
    (k : evF E Q n (.ops 0 l ds none :: ks) (S.app o.dst { res := .own S.bx.length, nw := some (.rows e sz rs) })) : CallG E Q o l ds none ks S g raw [] := fun hf => by
  obtain ⟨fo, az, ts, hop, hfo, hraw⟩ := hf
  refine Go.post hE n (by simp) (by simp) (fun Z β a w hs hW => ?_) k
  have e1 := hs.evT fo
  rw [hfo] at e1
  rw [mapN_eq] at hraw
  have h := op_callW (P := E.P) (θ := thawN (nthB (S.app o.dst { res := .own S.bx.length, nw := some (.rows e sz rs) }).bx)) (r := .own e sz rs) (nb := S.bx.length) (thawN_or _) hop hW e1 (ρ := evT S.tm) (fun x _ => hs.evT x) ?_ ?_ ?_
  · have hz : (az.toList.flatMap fun x => frzOf (evT S.tm x)) = [] := by rw [← hd, ← hraw, List.flatMap_map]
    rw [hz] at h
    exact h
  · intro x hx b hb
    exfalso
    have : b ∈ raw.flatMap frzOf := by rw [← hraw, List.flatMap_map]; exact List.mem_flatMap.2 ⟨x, by simpa using hx, hb⟩
    rw [hd] at this
    simp at this
  · have hnf : ∀ x ∈ raw, thawN (nthB (S.app o.dst { res := .own S.bx.length, nw := some (.rows e sz rs) }).bx) x = thawN (nthB S.bx) x := fun x hx => by
      have : frzOf x = [] := List.eq_nil_iff_forall_not_mem.2 fun b hb => by
        have : b ∈ raw.flatMap frzOf := List.mem_flatMap.2 ⟨x, hx, hb⟩
        rw [hd] at this
        simp at this
      cases x <;> first | rfl | simp [frzOf] at this
    have : (az.toList.map fun x => thawN (nthB (S.app o.dst { res := .own S.bx.length, nw := some (.rows e sz rs) }).bx) (evT S.tm x)) = args := by
      rw [← ha, ← List.map_congr_left hnf, ← hraw, List.map_map]
      rfl
    rw [this, hP]
    simpa using hok
  · intro y h
    cases h
    exact ⟨by simp, fun h => by have := hs.fl _ h; omega, by simp [St.app, addB, nthB_eq]⟩
end
end Go.Vam

/- The data of the program: hunks, changes, as plain structures, and as cells. -/
namespace Go.Qm
open Go.RowKit Go.Vam

abbrev Str := ByteArray
structure Hunk where
  at_ : Int
  old : List Str
  new : List Str
structure Prim where
  kind : Int
  name : Str
  to : Str
  h : Hunk
abbrev strC (s : Str) : List C := [.sc (.string s)]
abbrev strsC (l : List Str) : List (List C) := l.map strC
abbrev hunkC (h : Hunk) : List C := [.sc (.int .i64 h.at_), .sl (strsC h.old), .sl (strsC h.new)]
abbrev primC (p : Prim) : List C := [.sc (.int .i64 p.kind), .sc (.string p.name), .sc (.string p.to), .sc (.int .i64 p.h.at_), .sl (strsC p.h.old), .sl (strsC p.h.new)]
abbrev primsC (l : List Prim) : List (List C) := l.map primC
abbrev boolA (b : Bool) : AV := .c (.sc (.bool b))
abbrev intA (n : Int) : AV := .c (.sc (.int .i64 n))
abbrev strA (s : Str) : AV := .c (.sc (.string s))
abbrev strsA (l : List Str) : AV := .c (.sl (strsC l))
abbrev hunkA (h : Hunk) : AV := .agg (hunkC h)
abbrev primA (p : Prim) : AV := .agg (primC p)
abbrev primsA (l : List Prim) : AV := .c (.sl (primsC l))

/-- Both lists go together, place by place. -/
def all2 {α β : Type} (f : α → β → Bool) : List α → List β → Bool
  | [], [] => true
  | x :: l, y :: m => f x y && all2 f l m
  | _, _ => false
theorem all2_len {α β : Type} {f : α → β → Bool} : ∀ {a : List α} {b : List β}, all2 f a b = true → a.length = b.length
  | [], [], _ => rfl
  | x :: l, y :: m, h => by
    simp only [all2, Bool.and_eq_true] at h
    simp [all2_len h.2]
  | [], _ :: _, h => by simp [all2] at h
  | _ :: _, [], h => by simp [all2] at h
theorem all2_ne {α β : Type} {f : α → β → Bool} {a : List α} {b : List β} (h : a.length ≠ b.length) : all2 f a b = false := by
  cases hq : all2 f a b with
  | false => rfl
  | true => exact (h (all2_len hq)).elim
theorem all2_take {α β : Type} {f : α → β → Bool} : ∀ {a : List α} {b : List β} {i : Nat} (ha : i < a.length) (hb : i < b.length), all2 f (a.take (i + 1)) (b.take (i + 1)) = (all2 f (a.take i) (b.take i) && f a[i] b[i])
  | x :: l, y :: m, 0, _, _ => by simp [all2]
  | x :: l, y :: m, i + 1, ha, hb => by
    have := all2_take (f := f) (a := l) (b := m) (i := i) (by simpa using ha) (by simpa using hb)
    simp only [List.take_succ_cons, all2, List.getElem_cons_succ]
    rw [this, Bool.and_assoc]
  | [], _, _, ha, _ => by simp at ha
  | _ :: _, [], _, _, hb => by simp at hb
theorem all2_at {α β : Type} {f : α → β → Bool} : ∀ {a : List α} {b : List β} {i : Nat} (ha : i < a.length) (hb : i < b.length), f a[i] b[i] = false → all2 f a b = false
  | x :: l, y :: m, 0, _, _, h => by simp only [List.getElem_cons_zero] at h; simp [all2, h]
  | x :: l, y :: m, i + 1, ha, hb, h => by
    have := all2_at (f := f) (a := l) (b := m) (i := i) (by simpa using ha) (by simpa using hb) (by simpa using h)
    simp [all2, this]
  | [], _, _, ha, _, _ => by simp at ha
  | _ :: _, [], _, _, hb, _ => by simp at hb
theorem all2_full {α β : Type} {f : α → β → Bool} {a : List α} {b : List β} {i : Nat} (hi : i ≤ a.length) (hn : ¬ i < a.length) (hl : a.length = b.length) (h : all2 f (a.take i) (b.take i) = true) : all2 f a b = true := by
  have : i = a.length := by omega
  subst this
  rw [List.take_length] at h
  rwa [hl, List.take_length] at h
theorem str_beq (x y : Str) : (x == y) = decide (x = y) := by
  have h : (x == y) = (x.data == y.data) := rfl
  rw [h]
  obtain ⟨a⟩ := x
  obtain ⟨b⟩ := y
  by_cases hab : a = b
  · subst hab; simp
  · have : ¬ (ByteArray.mk a = ByteArray.mk b) := fun e => hab (by cases e; rfl)
    simp [hab, this]
abbrev strsEq (a b : List Str) : Bool := all2 (fun x y => decide (x = y)) a b
theorem strsEq_iff : ∀ {a b : List Str}, strsEq a b = true ↔ a = b
  | [], [] => by simp [all2]
  | x :: l, y :: m => by
    simp only [all2, Bool.and_eq_true, decide_eq_true_eq, List.cons.injEq]
    rw [strsEq_iff]
  | [], _ :: _ => by simp [all2]
  | _ :: _, [] => by simp [all2]
theorem rowLen_strs (l : List Str) : rowLen 1 (strsC l) := by
  intro row h
  obtain ⟨s, _, rfl⟩ := List.mem_map.1 h
  rfl
theorem rowLen_prims (l : List Prim) : rowLen 6 (primsC l) := by
  intro row h
  obtain ⟨s, _, rfl⟩ := List.mem_map.1 h
  rfl

abbrev strB (l : List Str) : Prop := l.length * 16 ≤ 140737488355328
abbrev hunkB (h : Hunk) : Prop := strB h.old ∧ strB h.new
abbrev primB (p : Prim) : Prop := hunkB p.h
def hunkEq (a b : Hunk) : Bool := (a.at_ == b.at_) && strsEq a.old b.old && strsEq a.new b.new
def turnH (h : Hunk) : Hunk := ⟨h.at_, h.new, h.old⟩
def turnP (p : Prim) : Prim :=
  if p.kind = 0 then ⟨1, p.name, p.to, p.h⟩ else if p.kind = 1 then ⟨0, p.name, p.to, p.h⟩ else if p.kind = 2 then ⟨p.kind, p.to, p.name, p.h⟩ else ⟨p.kind, p.name, p.to, turnH p.h⟩
def primEq (a b : Prim) : Bool := (a.kind == b.kind) && (decide (a.name = b.name)) && (decide (a.to = b.to)) && hunkEq a.h b.h
def idleP (p : Prim) : Bool := (p.kind == 3 || p.kind == 4) && strsEq p.h.old p.h.new
def undoes (a b : Prim) : Bool := primEq b (turnP a)
def lightS (l : List Str) (n : Int) : Bool := decide ((l.length : Int) ≤ n) && l.all fun s => decide (s.size ≤ 200)
def lightH (h : Hunk) : Bool := lightS h.old 300 && lightS h.new 300
def lightP (p : Prim) : Bool := lightH p.h && decide ((p.name.size : Int) ≤ 100) && decide ((p.to.size : Int) ≤ 100)
def few (l : List Prim) (n : Int) : Bool := decide ((l.length : Int) ≤ n) && l.all fun p => lightP p && decide (p.h.at_ ≤ 524288)
theorem turnP_B {p : Prim} (h : primB p) : primB (turnP p) := by
  unfold turnP
  split
  · exact h
  · split
    · exact h
    · split
      · exact h
      · exact ⟨h.2, h.1⟩
/-- A loop that asks each one. -/
theorem all_take {α : Type} {f : α → Bool} {l : List α} {i : Nat} (h : i < l.length) : (l.take (i + 1)).all f = ((l.take i).all f && f l[i]) := by
  rw [List.take_add_one, List.all_append, List.getElem?_eq_getElem h]; simp
theorem all_at {α : Type} {f : α → Bool} {l : List α} {i : Nat} (h : i < l.length) (hf : f l[i] = false) : l.all f = false := by
  rw [List.all_eq_false]
  exact ⟨l[i], List.getElem_mem h, by rw [hf]; simp⟩
theorem all_full {α : Type} {f : α → Bool} {l : List α} {i : Nat} (hi : i ≤ l.length) (hn : ¬ i < l.length) (h : (l.take i).all f = true) : l.all f = true := by
  have : i = l.length := by omega
  subst this
  rwa [List.take_length] at h

/-- Nothing is idle, and none undoes the one ahead of it. -/
def tightL (l : List Prim) : Bool := decide (∀ (i : Nat) (h : i < l.length), idleP l[i] = false ∧ ∀ (h0 : 0 < i), undoes (l[i - 1]'(by omega)) l[i] = false)
theorem tight_iff {l : List Prim} : tightL l = true ↔ ∀ (i : Nat) (h : i < l.length), idleP l[i] = false ∧ ∀ (h0 : 0 < i), undoes (l[i - 1]'(by omega)) l[i] = false := by simp [tightL]
theorem tight_idle {l : List Prim} {i : Nat} (h : i < l.length) (hi : idleP l[i] = true) : tightL l = false := by
  cases hq : tightL l with
  | false => rfl
  | true => have := (tight_iff.1 hq i h).1; rw [hi] at this; simp at this
theorem tight_undoes {l : List Prim} {i : Nat} (h0 : 0 < i) (h : i < l.length) (hi : undoes (l[i - 1]'(by omega)) l[i] = true) : tightL l = false := by
  cases hq : tightL l with
  | false => rfl
  | true => have := (tight_iff.1 hq i h).2 h0; rw [hi] at this; simp at this
theorem tight_take {l : List Prim} {i : Nat} (h : i < l.length) (ht : tightL (l.take i) = true) (hi : idleP l[i] = false) : (tightL (l.take (i + 1)) = true) = (0 < i → undoes (l[i - 1]'(by omega)) l[i] = false) := by
  rw [tight_iff] at ht
  rw [tight_iff]
  apply propext
  constructor
  · intro h1 h0
    have := (h1 i (by simp; omega)).2 h0
    simpa using this
  · intro h1 j hj
    have hj' : j < i + 1 := by simp at hj; omega
    by_cases hji : j = i
    · subst hji
      refine ⟨by simpa using hi, fun h0 => by simpa using h1 h0⟩
    · have := ht j (by simp; omega)
      refine ⟨by simpa using this.1, fun h0 => by simpa using this.2 h0⟩
theorem tight_full {l : List Prim} {i : Nat} (hi : i ≤ l.length) (hn : ¬ i < l.length) (h : tightL (l.take i) = true) : tightL l = true := by
  have : i = l.length := by omega
  subst this
  rwa [List.take_length] at h

theorem turnH_turnH (h : Hunk) : turnH (turnH h) = h := rfl
theorem turnP_turnP (p : Prim) : turnP (turnP p) = p := by
  unfold turnP
  by_cases h0 : p.kind = 0
  · simp [h0]; rw [← h0]
  · by_cases h1 : p.kind = 1
    · simp [h1]; rw [← h1]
    · by_cases h2 : p.kind = 2
      · simp [h2]; rw [← h2]
      · simp [h0, h1, h2, turnH]
theorem turn_turn (l : List Prim) : ((l.reverse.map turnP).reverse.map turnP) = l := by
  simp [List.map_reverse, Function.comp_def, turnP_turnP]
/-- One change upon what is left. -/
def tidyStep (s : List Prim) (p : Prim) : List Prim :=
  if idleP p = true then s else match s.getLast? with
    | some q => if primEq p (turnP q) = true then s.dropLast else s ++ [p]
    | none => s ++ [p]
def tidyL (l : List Prim) : List Prim := l.foldl tidyStep []
theorem tidyL_take {l : List Prim} {i : Nat} (h : i < l.length) : tidyL (l.take (i + 1)) = tidyStep (tidyL (l.take i)) l[i] := by
  unfold tidyL
  rw [List.take_add_one, List.foldl_append, List.getElem?_eq_getElem h]
  rfl
theorem tidyStep_len (s : List Prim) (p : Prim) : (tidyStep s p).length ≤ s.length + 1 := by
  unfold tidyStep
  split
  · omega
  · split
    · split <;> simp <;> omega
    · simp
theorem tidyL_len (l : List Prim) : (tidyL l).length ≤ l.length := by
  have : ∀ (l s : List Prim), (l.foldl tidyStep s).length ≤ s.length + l.length := fun l => by
    induction l with
    | nil => intro s; simp
    | cons p l ih =>
      intro s
      have h1 := ih (tidyStep s p)
      have h2 := tidyStep_len s p
      simp only [List.foldl_cons, List.length_cons]
      omega
  simpa [tidyL] using this l []
theorem tidyL_mem {l : List Prim} {q : Prim} (h : q ∈ tidyL l) : q ∈ l := by
  have : ∀ (l s : List Prim), q ∈ l.foldl tidyStep s → q ∈ s ∨ q ∈ l := fun l => by
    induction l with
    | nil => intro s h; exact .inl h
    | cons p l ih =>
      intro s h
      rcases ih _ h with h1 | h1
      · unfold tidyStep at h1
        split at h1
        · exact .inl h1
        · split at h1
          · split at h1
            · exact .inl (List.mem_of_mem_take (List.dropLast_eq_take ▸ h1))
            · rcases List.mem_append.1 h1 with h2 | h2
              · exact .inl h2
              · exact .inr (by simp at h2; simp [h2])
          · rcases List.mem_append.1 h1 with h2 | h2
            · exact .inl h2
            · exact .inr (by simp at h2; simp [h2])
      · exact .inr (by simp [h1])
  rcases this l [] h with h1 | h1
  · simp at h1
  · exact h1
theorem tidyStep_pop {s : List Prim} {p : Prim} (h : idleP p = false) (hpos : s.length - 1 < s.length) (hs : primEq p (turnP s[s.length - 1]) = true) : tidyStep s p = s.dropLast := by
  unfold tidyStep
  rw [if_neg (by rw [h]; simp), List.getLast?_eq_getElem?, List.getElem?_eq_getElem hpos]
  simp only [hs, if_true]
theorem tidyStep_push {s : List Prim} {p : Prim} (h : idleP p = false) (hs : ∀ hpos : s.length - 1 < s.length, primEq p (turnP s[s.length - 1]) = false) : tidyStep s p = s ++ [p] := by
  unfold tidyStep
  rw [if_neg (by rw [h]; simp), List.getLast?_eq_getElem?]
  by_cases hpos : s.length - 1 < s.length
  · rw [List.getElem?_eq_getElem hpos]
    simp [hs hpos]
  · rw [List.getElem?_eq_none (by omega)]
end Go.Qm

/- An abstract machine over data (part 26): the run's laws under one name. -/
namespace Go.Vam
open Go.Qm
theorem evX0 : type_of% (And.intro @evL (And.intro @evF.eq_1 (And.intro @evF.eq_2 (And.intro @evF.eq_3 (And.intro @evF.eq_4 (And.intro @evF.eq_5 (And.intro @evF.eq_6 (And.intro @evF.eq_7 (And.intro @evF.eq_8 (And.intro @evF.eq_9 (And.intro @evF.eq_10 (And.intro @evF.eq_11 (And.intro @evF.eq_12 (And.intro @evF.eq_13 (And.intro @evF.eq_14 (And.intro @evF.eq_15 (And.intro @evF.eq_16 (And.intro @evF.eq_17 (And.intro @evF.eq_18 (And.intro @evF.eq_19 (And.intro @selF_t (And.intro @selF_f (And.intro @nxF_some (And.intro @nxF_none @nxS_some)))))))))))))))))))))))) := And.intro @evL (And.intro @evF.eq_1 (And.intro @evF.eq_2 (And.intro @evF.eq_3 (And.intro @evF.eq_4 (And.intro @evF.eq_5 (And.intro @evF.eq_6 (And.intro @evF.eq_7 (And.intro @evF.eq_8 (And.intro @evF.eq_9 (And.intro @evF.eq_10 (And.intro @evF.eq_11 (And.intro @evF.eq_12 (And.intro @evF.eq_13 (And.intro @evF.eq_14 (And.intro @evF.eq_15 (And.intro @evF.eq_16 (And.intro @evF.eq_17 (And.intro @evF.eq_18 (And.intro @evF.eq_19 (And.intro @selF_t (And.intro @selF_f (And.intro @nxF_some (And.intro @nxF_none @nxS_some)))))))))))))))))))))))
theorem evX1 : type_of% (And.intro @nxS_none (And.intro @detE.eq_1 (And.intro @detE.eq_2 (And.intro @detE.eq_3 (And.intro @detE.eq_4 (And.intro @detE.eq_5 (And.intro @detE.eq_6 (And.intro @detE.eq_7 (And.intro @detE.eq_8 (And.intro @detE.eq_9 (And.intro @detE.eq_10 (And.intro @detE.eq_11 (And.intro @detE.eq_12 (And.intro @detE.eq_13 (And.intro @detE.eq_14 (And.intro @detE.eq_15 (And.intro @detE.eq_16 (And.intro @detE.eq_17 (And.intro @detE.eq_18 (And.intro @hardF.eq_1 (And.intro @look.eq_1 (And.intro @look.eq_2 (And.intro @evT.eq_1 (And.intro @evT.eq_2 @evT.eq_3)))))))))))))))))))))))) := And.intro @nxS_none (And.intro @detE.eq_1 (And.intro @detE.eq_2 (And.intro @detE.eq_3 (And.intro @detE.eq_4 (And.intro @detE.eq_5 (And.intro @detE.eq_6 (And.intro @detE.eq_7 (And.intro @detE.eq_8 (And.intro @detE.eq_9 (And.intro @detE.eq_10 (And.intro @detE.eq_11 (And.intro @detE.eq_12 (And.intro @detE.eq_13 (And.intro @detE.eq_14 (And.intro @detE.eq_15 (And.intro @detE.eq_16 (And.intro @detE.eq_17 (And.intro @detE.eq_18 (And.intro @hardF.eq_1 (And.intro @look.eq_1 (And.intro @look.eq_2 (And.intro @evT.eq_1 (And.intro @evT.eq_2 @evT.eq_3)))))))))))))))))))))))
theorem evX2 : type_of% (And.intro @evT.eq_4 (And.intro @cAV.eq_1 (And.intro @cAV.eq_2 (And.intro @cAV.eq_3 (And.intro @cAV.eq_4 (And.intro @cAV.eq_5 (And.intro @putT.eq_1 (And.intro @putT.eq_2 (And.intro @dstOk.eq_1 (And.intro @dstOk.eq_2 (And.intro @St.app.eq_1 (And.intro @St.skip.eq_1 (And.intro @St.setB.eq_1 (And.intro @addB.eq_1 (And.intro @addB.eq_2 (And.intro @nthB.eq_1 (And.intro @nthB.eq_2 (And.intro @nthB.eq_3 (And.intro @setBx.eq_1 (And.intro @setBx.eq_2 (And.intro @setBx.eq_3 (And.intro @memB.eq_1 (And.intro @memB.eq_2 (And.intro @hasN.eq_1 @hasN.eq_2)))))))))))))))))))))))) := And.intro @evT.eq_4 (And.intro @cAV.eq_1 (And.intro @cAV.eq_2 (And.intro @cAV.eq_3 (And.intro @cAV.eq_4 (And.intro @cAV.eq_5 (And.intro @putT.eq_1 (And.intro @putT.eq_2 (And.intro @dstOk.eq_1 (And.intro @dstOk.eq_2 (And.intro @St.app.eq_1 (And.intro @St.skip.eq_1 (And.intro @St.setB.eq_1 (And.intro @addB.eq_1 (And.intro @addB.eq_2 (And.intro @nthB.eq_1 (And.intro @nthB.eq_2 (And.intro @nthB.eq_3 (And.intro @setBx.eq_1 (And.intro @setBx.eq_2 (And.intro @setBx.eq_3 (And.intro @memB.eq_1 (And.intro @memB.eq_2 (And.intro @hasN.eq_1 @hasN.eq_2)))))))))))))))))))))))
theorem evX3 : type_of% (And.intro @hasN.eq_3 (And.intro @takeN.eq_1 (And.intro @takeN.eq_2 (And.intro @takeN.eq_3 (And.intro @dropN.eq_1 (And.intro @dropN.eq_2 (And.intro @dropN.eq_3 (And.intro @nthC.eq_1 (And.intro @nthC.eq_2 (And.intro @nthC.eq_3 (And.intro @nthX.eq_1 (And.intro @nthX.eq_2 (And.intro @nthX.eq_3 (And.intro @Go.Vam.nth.eq_1 (And.intro @Go.Vam.nth.eq_2 (And.intro @Go.Vam.nth.eq_3 (And.intro @allB.eq_1 (And.intro @allB.eq_2 (And.intro @mapN.eq_1 (And.intro @mapN.eq_2 (And.intro @partsN.eq_1 (And.intro @partsN.eq_2 (And.intro @okN.eq_1 (And.intro @okN.eq_2 @aggOr.eq_1)))))))))))))))))))))))) := And.intro @hasN.eq_3 (And.intro @takeN.eq_1 (And.intro @takeN.eq_2 (And.intro @takeN.eq_3 (And.intro @dropN.eq_1 (And.intro @dropN.eq_2 (And.intro @dropN.eq_3 (And.intro @nthC.eq_1 (And.intro @nthC.eq_2 (And.intro @nthC.eq_3 (And.intro @nthX.eq_1 (And.intro @nthX.eq_2 (And.intro @nthX.eq_3 (And.intro @Go.Vam.nth.eq_1 (And.intro @Go.Vam.nth.eq_2 (And.intro @Go.Vam.nth.eq_3 (And.intro @allB.eq_1 (And.intro @allB.eq_2 (And.intro @mapN.eq_1 (And.intro @mapN.eq_2 (And.intro @partsN.eq_1 (And.intro @partsN.eq_2 (And.intro @okN.eq_1 (And.intro @okN.eq_2 @aggOr.eq_1)))))))))))))))))))))))
theorem evX4 : type_of% (And.intro @aggOr.eq_2 (And.intro @deadFree.eq_1 (And.intro @deadFree.eq_2 (And.intro @nthD.eq_1 (And.intro @nthD.eq_2 (And.intro @nthD.eq_3 (And.intro @advT.eq_1 (And.intro @advT.eq_2 (And.intro @advS.eq_1 (And.intro @advS.eq_2 (And.intro @unw.eq_1 (And.intro @unw.eq_2 (And.intro @unw.eq_3 (And.intro @unw.eq_4 (And.intro @unw.eq_5 (And.intro @binV.eq_1 (And.intro @binV.eq_2 (And.intro @binV.eq_3 (And.intro @binB.eq_1 (And.intro @binB.eq_2 (And.intro @binB.eq_3 (And.intro @binB.eq_4 (And.intro @binI.eq_1 (And.intro @binI.eq_2 @binI.eq_3)))))))))))))))))))))))) := And.intro @aggOr.eq_2 (And.intro @deadFree.eq_1 (And.intro @deadFree.eq_2 (And.intro @nthD.eq_1 (And.intro @nthD.eq_2 (And.intro @nthD.eq_3 (And.intro @advT.eq_1 (And.intro @advT.eq_2 (And.intro @advS.eq_1 (And.intro @advS.eq_2 (And.intro @unw.eq_1 (And.intro @unw.eq_2 (And.intro @unw.eq_3 (And.intro @unw.eq_4 (And.intro @unw.eq_5 (And.intro @binV.eq_1 (And.intro @binV.eq_2 (And.intro @binV.eq_3 (And.intro @binB.eq_1 (And.intro @binB.eq_2 (And.intro @binB.eq_3 (And.intro @binB.eq_4 (And.intro @binI.eq_1 (And.intro @binI.eq_2 @binI.eq_3)))))))))))))))))))))))
theorem evX5 : type_of% (And.intro @binI.eq_4 (And.intro @binI.eq_5 (And.intro @binI.eq_6 (And.intro @binI.eq_7 (And.intro @binI.eq_8 (And.intro @binI.eq_9 (And.intro @binI.eq_10 (And.intro @binS.eq_1 (And.intro @binS.eq_2 (And.intro @binS.eq_3 (And.intro @binS.eq_4 (And.intro @binS.eq_5 (And.intro @binS.eq_6 (And.intro @binS.eq_7 (And.intro @numOf.eq_1 (And.intro @numOf.eq_2 (And.intro @boundO.eq_1 (And.intro @boundO.eq_2 (And.intro @stOf.eq_1 (And.intro @stOf.eq_2 (And.intro @stOf.eq_3 (And.intro @stOf.eq_4 (And.intro @stOf.eq_5 (And.intro @stOf.eq_6 @stOf.eq_7)))))))))))))))))))))))) := And.intro @binI.eq_4 (And.intro @binI.eq_5 (And.intro @binI.eq_6 (And.intro @binI.eq_7 (And.intro @binI.eq_8 (And.intro @binI.eq_9 (And.intro @binI.eq_10 (And.intro @binS.eq_1 (And.intro @binS.eq_2 (And.intro @binS.eq_3 (And.intro @binS.eq_4 (And.intro @binS.eq_5 (And.intro @binS.eq_6 (And.intro @binS.eq_7 (And.intro @numOf.eq_1 (And.intro @numOf.eq_2 (And.intro @boundO.eq_1 (And.intro @boundO.eq_2 (And.intro @stOf.eq_1 (And.intro @stOf.eq_2 (And.intro @stOf.eq_3 (And.intro @stOf.eq_4 (And.intro @stOf.eq_5 (And.intro @stOf.eq_6 @stOf.eq_7)))))))))))))))))))))))
theorem evX6 : type_of% (And.intro @stOf.eq_8 (And.intro @or_false (And.intro @not_false_eq_true (And.intro @isC.eq_1 (And.intro @isC.eq_2 (And.intro @isC.eq_3 (And.intro @toC.eq_1 (And.intro @toC.eq_2 (And.intro @toC.eq_3 (And.intro @fillC.eq_1 (And.intro @fillC.eq_2 (And.intro @placeOf.eq_1 (And.intro @allC.eq_1 (And.intro @allC.eq_2 (And.intro @allC.eq_3 (And.intro @zeroO.eq_1 (And.intro @zeroO.eq_2 (And.intro @placeA.eq_1 (And.intro @rowsOf.eq_1 (And.intro @rowsOf.eq_2 (And.intro @rowOf.eq_1 (And.intro @rowOf.eq_2 (And.intro @rowOf.eq_3 (And.intro @rowOf.eq_4 @capsOf.eq_1)))))))))))))))))))))))) := And.intro @stOf.eq_8 (And.intro @or_false (And.intro @not_false_eq_true (And.intro @isC.eq_1 (And.intro @isC.eq_2 (And.intro @isC.eq_3 (And.intro @toC.eq_1 (And.intro @toC.eq_2 (And.intro @toC.eq_3 (And.intro @fillC.eq_1 (And.intro @fillC.eq_2 (And.intro @placeOf.eq_1 (And.intro @allC.eq_1 (And.intro @allC.eq_2 (And.intro @allC.eq_3 (And.intro @zeroO.eq_1 (And.intro @zeroO.eq_2 (And.intro @placeA.eq_1 (And.intro @rowsOf.eq_1 (And.intro @rowsOf.eq_2 (And.intro @rowOf.eq_1 (And.intro @rowOf.eq_2 (And.intro @rowOf.eq_3 (And.intro @rowOf.eq_4 @capsOf.eq_1)))))))))))))))))))))))
theorem evX7 : type_of% (And.intro @capsOf.eq_2 (And.intro @capOf.eq_1 (And.intro @capOf.eq_2 (And.intro @capOf.eq_3 (And.intro @List.all_cons.{0} (And.intro @List.all_nil.{0} (And.intro @frzOf.eq_1 (And.intro @frzOf.eq_2 (And.intro @retE.eq_1 (And.intro @retE.eq_2 (And.intro @appE.eq_1 (And.intro @anyM.eq_1 (And.intro @anyM.eq_2 (And.intro @thawL.eq_1 (And.intro @thawL.eq_2 (And.intro @thawF.eq_1 (And.intro @thawF.eq_2 (And.intro @thawF.eq_3 (And.intro @thawF.eq_4 (And.intro @thawF.eq_5 (And.intro @thawF.eq_6 (And.intro @thawF.eq_7 (And.intro (And.intro @thawF.eq_8 @thawF.eq_9) (And.intro @frzL.eq_1 @frzL.eq_2)))))))))))))))))))))))) := And.intro @capsOf.eq_2 (And.intro @capOf.eq_1 (And.intro @capOf.eq_2 (And.intro @capOf.eq_3 (And.intro @List.all_cons.{0} (And.intro @List.all_nil.{0} (And.intro @frzOf.eq_1 (And.intro @frzOf.eq_2 (And.intro @retE.eq_1 (And.intro @retE.eq_2 (And.intro @appE.eq_1 (And.intro @anyM.eq_1 (And.intro @anyM.eq_2 (And.intro @thawL.eq_1 (And.intro @thawL.eq_2 (And.intro @thawF.eq_1 (And.intro @thawF.eq_2 (And.intro @thawF.eq_3 (And.intro @thawF.eq_4 (And.intro @thawF.eq_5 (And.intro @thawF.eq_6 (And.intro @thawF.eq_7 (And.intro (And.intro @thawF.eq_8 @thawF.eq_9) (And.intro @frzL.eq_1 @frzL.eq_2)))))))))))))))))))))))
theorem evX8 : type_of% (And.intro @argsT.eq_1 (And.intro @argsT.eq_2 (And.intro @if_true.{1} (And.intro @if_false.{1} (And.intro @decide_true (And.intro @decide_false (And.intro @beq_self_eq_true.{0} (And.intro @and_self (And.intro @and_true (And.intro @true_and (And.intro @Go.Qm.primC.eq_1 (And.intro @Go.Qm.hunkC.eq_1 (And.intro @Go.Qm.strC.eq_1 (And.intro @setLp.eq_1 (And.intro @zipT.eq_1 (And.intro @zipT.eq_2 (And.intro @fnOf.eq_1 (And.intro @fnOf.eq_2 (And.intro @fnOf.eq_3 (And.intro @retA.eq_1 (And.intro @retA.eq_2 (And.intro @resVs.eq_1 (And.intro @resVs.eq_2 (And.intro @resV.eq_1 @resV.eq_2)))))))))))))))))))))))) := And.intro @argsT.eq_1 (And.intro @argsT.eq_2 (And.intro @if_true.{1} (And.intro @if_false.{1} (And.intro @decide_true (And.intro @decide_false (And.intro @beq_self_eq_true.{0} (And.intro @and_self (And.intro @and_true (And.intro @true_and (And.intro @Go.Qm.primC.eq_1 (And.intro @Go.Qm.hunkC.eq_1 (And.intro @Go.Qm.strC.eq_1 (And.intro @setLp.eq_1 (And.intro @zipT.eq_1 (And.intro @zipT.eq_2 (And.intro @fnOf.eq_1 (And.intro @fnOf.eq_2 (And.intro @fnOf.eq_3 (And.intro @retA.eq_1 (And.intro @retA.eq_2 (And.intro @resVs.eq_1 (And.intro @resVs.eq_2 (And.intro @resV.eq_1 @resV.eq_2)))))))))))))))))))))))
theorem evX9 : type_of% ( @St.frz.eq_1) :=  @St.frz.eq_1
theorem evXf : type_of% (And.intro @fin.eq_1 (And.intro @fin.eq_2 (And.intro @fin.eq_3 (And.intro @fin.eq_4 (And.intro @fin.eq_5 @plainV.eq_1))))) := And.intro @fin.eq_1 (And.intro @fin.eq_2 (And.intro @fin.eq_3 (And.intro @fin.eq_4 (And.intro @fin.eq_5 @plainV.eq_1))))
theorem evX : type_of% (And.intro evXf (And.intro evX0 (And.intro evX1 (And.intro evX2 (And.intro evX3 (And.intro evX4 (And.intro evX5 (And.intro evX6 (And.intro evX7 (And.intro evX8 evX9)))))))))) := And.intro evXf (And.intro evX0 (And.intro evX1 (And.intro evX2 (And.intro evX3 (And.intro evX4 (And.intro evX5 (And.intro evX6 (And.intro evX7 (And.intro evX8 evX9)))))))))
end Go.Vam

/- An abstract machine over data (part 27): labels; two structs and a word told. -/
namespace Go.Vam
open Go.RowKit
set_option linter.unusedVariables false
set_option linter.unusedSimpArgs false
/-! ### A scope through which the run goes without a jump -/
section
variable {P : Program} {b : Frame} {a : Act} {k : List Item} {cs : List Frame} {w : World} {Q : Exit → Act → World → Prop} {F : Fence} {n : Nat}
theorem stepR_scope {c : Code} : step P (lone (b.atR a (.code (.scope c) :: k)) cs w) = .next (lone (b.atR a (.code c :: .inScope c :: k)) cs w) :=
  step_lone_go (by simp [stepG, stepG.exec, Frame.atR])
theorem stepR_inScope {c : Code} : step P (lone (b.atR a (.inScope c :: k)) cs w) = .next (lone (b.atR a k) cs w) :=
  step_lone_go (by simp [stepG, stepG.exec, Frame.atR])
theorem wpIn_scope {c : Code} (h : c.wpIn F n P (Exit.noGoto Q) a w) : (Code.scope c).wpIn F n P Q a w := by
  intro b k cs hro hb hr
  have h0 : (lone (b.atR a (.code (.scope c) :: k)) cs w).fenced P F := fenced_calm hb hr rfl
  obtain ⟨e, a₁, w₁, hq, harr⟩ := h b (.inScope c :: k) cs hro hb hr
  cases e with
  | normal => exact ⟨.normal, a₁, w₁, hq, .head h0 stepR_scope (StepsIn.trans harr (.one (fenced_calm hb hr rfl) stepR_inScope))⟩
  | exit id' =>
    have hx : exitTo id' (.inScope c :: k) = exitTo id' k := by simp [exitTo]
    exact ⟨.exit id', a₁, w₁, hq, fun k' hk => .head h0 stepR_scope (harr.1 k' (by rw [hx]; exact hk)),
      fun hr' hk => let ⟨k₁, h1, h2⟩ := harr.2 hr' (by rw [hx]; exact hk); ⟨k₁, h1, .head h0 stepR_scope h2⟩⟩
  | goto l => exact hq.elim
  | ret => exact ⟨_, a₁, w₁, hq, .of_steps (.one h0 stepR_scope) harr⟩
  | panic ch => exact ⟨_, a₁, w₁, hq, .of_steps (.one h0 stepR_scope) harr⟩
  | outgrown => exact ⟨_, a₁, w₁, hq, .of_steps (.one h0 stepR_scope) harr⟩
end
section
variable {E : En} {Q : Exit → St → Prop} {ks : List Fr} {S : St}
def noG (Q : Exit → St → Prop) : Exit → St → Prop
  | .goto _, _ => False
  | e, S => Q e S
theorem AWP.scope {c : Code} {Q : Exit → St → Prop} (h : AWP E c S (noG Q)) : AWP E (.scope c) S Q := fun Z β a w hs => by
  refine wpIn_scope (wpIn_mono (h Z β a w hs) fun e a' w' ⟨S', Z', β', h1, h2, h3, h4⟩ => ?_)
  cases e with
  | goto l => exact h4.elim
  | normal => exact ⟨S', Z', β', h1, h2, h3, h4⟩
  | exit id => exact ⟨S', Z', β', h1, h2, h3, h4⟩
  | ret => exact ⟨S', Z', β', h1, h2, h3, h4⟩
  | panic ch => exact ⟨S', Z', β', h1, h2, h3, h4⟩
  | outgrown => exact ⟨S', Z', β', h1, h2, h3, h4⟩
/-- A whole body that is a scope. -/
theorem Go.scope (hE : EOk E) {c : Code} (n : Nat) (h : evF E (noG Q) n [.code c] S) : Go E Q [.code (.scope c)] S := fun hn =>
  AWP.scope (evF_sound hE n [.code c] S h hn)
theorem AWP.label {c : Nat} {Q : Exit → St → Prop} (hn : E.n0 ≤ S.bx.length) (h : Q .normal S) : AWP E (.label c) S Q := fun Z β a w hs =>
  wpIn_label ⟨S, Z, β, hs, .refl _ _ _ _, hn, h⟩
theorem Go.label (hE : EOk E) {c : Nat} (n : Nat) (h : evF E Q n ks S) : Go E Q (.code (.label c) :: ks) S := fun hn => AWP.label hn (evF_sound hE n ks S h hn)
theorem cellV {tt : TT} {t ty b off : Nat} {i : TyI} {cs : List AV} {cs' : List C} (hx : look S.tm t = .ptr b off) (hi : tt ty = some i) (hd : memB b S.dead = false) (hb : nthB S.bx b = some (.cells cs))
    (hag : i.ag = true) (hn : Nat.ble 1 i.n = true) (hl : hasN cs (off + i.n) = true) (hc : allB isC (takeN i.n (dropN off cs)) = true) (hr : mapN toC (takeN i.n (dropN off cs)) = cs') : resV tt S (.cell t ty) = some (.agg cs') := by
  simp only [resV, hx, hi]
  rw [if_neg (memB_not (by rw [hd]; simp)), hb]
  simp only
  rw [allB_eq, takeN_eq, dropN_eq] at hc
  rw [if_pos ⟨hasN_spec _ _ hl, Nat.le_of_ble_eq_true hn, fun h => by rw [hag] at h; simp at h, fun _ => hc⟩, if_pos hag, ← hr, mapN_eq, takeN_eq, dropN_eq]
/-- Two structs out of their variables, and a plain value. -/
theorem RetQ.cct {tt : TT} {t1 t2 t3 y1 y2 : Nat} {e : Exit} {r1 r2 : List C} {c3 c3' : C} (he : e = .normal ∨ e = .ret) (h1 : resV tt S (.cell t1 y1) = some (.agg r1)) (h2 : resV tt S (.cell t2 y2) = some (.agg r2)) (h3 : look S.tm t3 = .c c3) (hc : c3 = c3') :
    RetQ tt [.cell t1 y1, .cell t2 y2, .tmp t3] (.v (.tup [.agg r1, .agg r2, .c c3'])) e S := by
  subst hc
  refine ⟨he, [.agg r1, .agg r2, .c c3], by
    have e3 : resV tt S (.tmp t3) = some (.c c3) := by rw [resV, h3]
    simp only [resVs, h1, h2, e3], .inl ⟨fun b hb => ?_, rfl⟩⟩
  simp [frzOf] at hb
end
end Go.Vam

/- An abstract machine over data (part 28): things of two numbers each, compared. -/
namespace Go.Vam
open Go.RowKit
set_option linter.unusedVariables false
set_option linter.unusedSimpArgs false

theorem EqT.of {P : Program} {t : TypeId} {f1 f2 : Field} {ti : TypeId} {i : TyI} (hu : P.underlying t = some (.struct (P.fieldsOf t))) (hp : P.stoodInHeld t = false) (hg : P.eqGuardType P.depth t = false)
    (hf : (P.fieldsOf t).toList = [f1, f2]) (n1 : f1.name ≠ "_") (n2 : f2.name ≠ "_") (o1 : f1.offset = 0) (o2 : f2.offset = 1) (t1 : f1.type = ti) (t2 : f2.type = ti) (hi : P.underlying ti = some (.int .i64)) (hty : tyOk P ti i = true) (hag : i.ag = false) : EqT P t := fun w p1 p2 q1 q2 => by
  refine ⟨?_, fun op x y => run_eqGuard_agg w op _ x y _ _ hg⟩
  have ha : ∀ w, (isAgg ti).run P w = .ok false w := fun w => by have := (tyOk_spec hty).1 w; rw [hag] at this; exact this
  rw [run_equalIn_agg w 9999 _ _ _ hu hp, hf]
  have e1 : ∀ (a b : Int) (w : World), (part ti #[.int .i64 a, .int .i64 b] 0).run P w = .ok (.int .i64 a) w := fun a b w => by
    simp only [part, Sem.run_bind, ha, Result.andThen_ok, Bool.false_eq_true, if_false]; rfl
  have e2 : ∀ (a b : Int) (w : World), (part ti #[.int .i64 a, .int .i64 b] 1).run P w = .ok (.int .i64 b) w := fun a b w => by
    simp only [part, Sem.run_bind, ha, Result.andThen_ok, Bool.false_eq_true, if_false]; rfl
  have e3 : ∀ (a b : Int) (w : World), (Op.equalIn 9999 ti (.int .i64 a) (.int .i64 b)).run P w = .ok (a == b) w := fun a b w => run_equalIn_int w 9998 ti _ _ _ _ hi
  simp only [Op.eqFields, if_pos n1, if_pos n2, t1, t2, o1, o2, Sem.run_bind, e1, e2, e3, Result.andThen_ok, Sem.run_ite, Sem.run_pure]
  cases p1 == q1 <;> cases p2 == q2 <;> simp [Sem.run_pure]
/-- A list of one's own in a box's cell becomes data, at an operation. -/
theorem Sim.frzC {E : En} {S : St} {Z : Zone} {β : Nat → Value} {a : Act} {w : World} (hs : Sim E S Z β a w) (b0 k b : Nat) {e sz : Nat} {rs : List (List C)} {cs : List AV} (hb0 : nthB S.bx b0 = some (.cells cs)) (hk : cs[k]? = some (.own b)) (hd : b ∉ S.dead) (hb : nthB S.bx b = some (.rows e sz rs)) :
    ∃ Z', Sim E ⟨S.nt, S.tm, setBx S.bx b0 (.cells (cs.set k (.c (.sl rs)))), S.dead, b :: S.fz⟩ Z' β a w ∧ Evo S.bx.length Z β Z' β w w := by
  obtain ⟨Z', h1, h2, h3⟩ := hs.freeze hd hb
  have hb0l : b0 < S.bx.length := by rw [nthB_eq] at hb0; exact (List.getElem?_eq_some_iff.1 hb0).1
  have hS := h1.rebox (bx' := setBx S.bx b0 (.cells (cs.set k (.c (.sl rs))))) (by simp [setBx_eq]) (fun b' hb' hd' => by
    obtain ⟨x, hx, hB⟩ := h1.wr.box b' ⟨hb', hd'⟩
    by_cases hbb : b' = b0
    · subst hbb
      have hxe : x = .cells cs := by
        rw [hb0] at hx
        exact (Option.some.inj hx).symm
      subst hxe
      refine ⟨.cells (cs.set k (.c (.sl rs))), by rw [nthB_eq, setBx_eq, List.getElem?_set_self hb0l], ?_⟩
      cases hB with
      | cells _ g arr t hv hg hh hl hc hz =>
        refine .cells _ g arr t hv hg hh (by simpa using hl) (fun i y v e1 e2 => ?_) hz
        by_cases hik : k = i
        · subst hik
          have hkl : k < cs.length := (List.getElem?_eq_some_iff.1 hk).1
          rw [List.getElem?_set_self hkl] at e1
          simp only [Option.some.injEq] at e1
          subst e1
          have hA := hc k _ v hk e2
          have hv : v = β b := by cases hA; rfl
          rw [hv]
          exact .c _ _ h3
        · rw [List.getElem?_set_ne hik] at e1
          exact hc i y v e1 e2
    · refine ⟨x, ?_, hB⟩
      rw [nthB_eq] at hx ⊢
      rw [setBx_eq, List.getElem?_set_ne (fun e => hbb e.symm)]
      exact hx)
  exact ⟨Z', hS, h2⟩
section
variable {E : En} {Q : Exit → St → Prop} {o : Oper} {l : List Oper} {ds : List (Option Nat)} {dr : Dr} {ks : List Fr} {S : St}
theorem HardOp.frzC (hE : EOk E) (n b0 k b : Nat) {e sz : Nat} {rs : List (List C)} {cs : List AV} (hb0 : nthB S.bx b0 = some (.cells cs)) (hk : nthX cs k = some (.own b)) (hb : nthB S.bx b = some (.rows e sz rs)) (hd : memB b S.dead = false)
    (h : evF E Q n (.ops 1 (o :: l) ds none :: ks) ⟨S.nt, S.tm, setBx S.bx b0 (.cells (cs.set k (.c (.sl rs)))), S.dead, b :: S.fz⟩) : HardOp E Q o l ds none ks S := fun _ hn => by
  obtain ⟨r, h1, h2, h3⟩ := evF_sound hE n _ _ h (by simpa [setBx_eq] using hn)
  refine ⟨r, h1, fun hr => ?_, fun hr => by simp only at h1; rw [h1] at hr; simp at hr⟩
  intro Z β a w hs
  obtain ⟨Z', k1, k2⟩ := hs.frzC b0 k b hb0 (by rw [← nthX_eq]; exact hk) (memB_not (by rw [hd]; simp)) hb
  exact (h2 hr Z' β a w k1).mono fun v w' q => q.trans (k2.mono hn)
end
def eqTb (P : Program) (t ti : TypeId) : Bool := match (P.fieldsOf t).toList with
  | [f1, f2] => (f1.name != "_") && ((f2.name != "_") && ((f1.offset == 0) && ((f2.offset == 1) && ((f1.type == ti) && (f2.type == ti)))))
  | _ => false
theorem EqT.ofB {P : Program} {t ti : TypeId} {i : TyI} (hu : P.underlying t = some (.struct (P.fieldsOf t))) (hp : P.stoodInHeld t = false) (hg : P.eqGuardType P.depth t = false)
    (hf : eqTb P t ti = true) (hi : P.underlying ti = some (.int .i64)) (hty : tyOk P ti i = true) (hag : i.ag = false) : EqT P t := by
  unfold eqTb at hf
  split at hf
  · rename_i f1 f2 h
    simp only [Bool.and_eq_true, bne_iff_ne, ne_eq, beq_iff_eq] at hf
    obtain ⟨a, b, c, d, e, f⟩ := hf
    exact EqT.of hu hp hg h a b c d e f hi hty hag
  · simp at hf
section
variable {E : En} {Q : Exit → St → Prop} {o : Oper} {l : List Oper} {ds : List (Option Nat)} {dr : Dr} {ks : List Fr} {S : St}
theorem HardOp.eqI (hE : EOk E) {op : BinOp} {t u : TypeId} {x y : Operand} {b : Bool} (n : Nat) (ho : o.op = .binOp op t x y u) (hq : EqT E.P t) (hv : Vam.eqI op (evT S.tm x) (evT S.tm y) = some b)
    (k : evF E Q n (.ops 0 l ds (advT dr o S { res := .c (.sc (.bool b)) }) :: ks) (S.app o.dst { res := .c (.sc (.bool b)) })) : HardOp E Q o l ds dr ks S := fun hd => by
  refine GoK.loc hE ?_ hd (evF_sound hE n _ _ k)
  have h0 := hv
  unfold Vam.eqI at hv
  unfold LoclS Locl
  rw [ho]
  simp only
  split at hv
  · rename_i e1 e2
    simp only [e1, e2, binV, binB] at h0 ⊢
    rw [h0]
    exact ⟨hq, rfl⟩
  · simp at hv
end
end Go.Vam

/- An abstract machine over data (part 29): results, whichever they are. -/
namespace Go.Vam
open Go.RowKit
set_option linter.unusedVariables false
set_option linter.unusedSimpArgs false

theorem cellS {tt : TT} {S : St} {t ty b off : Nat} {i : TyI} {cs : List AV} {x : AV} (hx : look S.tm t = .ptr b off) (hi : tt ty = some i) (hd : memB b S.dead = false) (hb : nthB S.bx b = some (.cells cs))
    (hag : i.ag = false) (hn : i.n = 1) (hl : hasN cs (off + 1) = true) (hr : nth cs off = x) : resV tt S (.cell t ty) = some x := by
  simp only [resV, hx, hi]
  rw [if_neg (memB_not (by rw [hd]; simp)), hb]
  simp only
  rw [if_pos ⟨by rw [hn]; exact hasN_spec _ _ hl, by omega, fun _ => hn, fun h => by rw [hag] at h; simp at h⟩, if_neg (by rw [hag]; simp), hr]
theorem tmpV {tt : TT} {S : St} {t : Nat} {x : AV} (hx : look S.tm t = x) : resV tt S (.tmp t) = some x := by rw [resV, hx]
theorem RetQ.gen2 {tt : TT} {r1 r2 : ResultVar} {e : Exit} {S : St} {x y x' y' : AV} (he : e = .normal ∨ e = .ret) (h1 : resV tt S r1 = some x) (h2 : resV tt S r2 = some y) (hd : deadFree S.dead (frzL [x, y]) = true) (hz : [x', y'] = thawL S.bx [x, y]) :
    RetQ tt [r1, r2] (.v (.tup [x', y'])) e S := by
  refine ⟨he, [x, y], by simp only [resVs, h1, h2], .inl ⟨fun b hb => ?_, ?_⟩⟩
  · rw [frzL_eq] at hd
    exact deadFree_spec hd b hb
  · rw [hz, thawL_eq]
theorem RetQ.gen3 {tt : TT} {r1 r2 r3 : ResultVar} {e : Exit} {S : St} {x y z x' y' z' : AV} (he : e = .normal ∨ e = .ret) (h1 : resV tt S r1 = some x) (h2 : resV tt S r2 = some y) (h3 : resV tt S r3 = some z) (hd : deadFree S.dead (frzL [x, y, z]) = true)
    (hz : [x', y', z'] = thawL S.bx [x, y, z]) : RetQ tt [r1, r2, r3] (.v (.tup [x', y', z'])) e S := by
  refine ⟨he, [x, y, z], by simp only [resVs, h1, h2, h3], .inl ⟨fun b hb => ?_, ?_⟩⟩
  · rw [frzL_eq] at hd
    exact deadFree_spec hd b hb
  · rw [hz, thawL_eq]
/-- A thing, a list of one's own, a thing. -/
theorem RetQ.mix3 {tt : TT} {r1 r2 r3 : ResultVar} {e : Exit} {S : St} {x z x' z' : AV} {b e' sz : Nat} {rs : List (List C)} (he : e = .normal ∨ e = .ret) (h1 : resV tt S r1 = some x) (h2 : resV tt S r2 = some (.own b)) (h3 : resV tt S r3 = some z) (hf : frzL [x, z] = [])
    (hd : memB b S.dead = false) (hfz : memB b S.fz = false) (hb : nthB S.bx b = some (.rows e' sz rs)) (hx : thawF (nthB S.bx) x = x') (hz : thawF (nthB S.bx) z = z') : RetQ tt [r1, r2, r3] (.mix [x'] e' sz rs [z']) e S := by
  refine ⟨he, [x, .own b, z], by simp only [resVs, h1, h2, h3], .inr ⟨[x], .own b, [z], e', sz, rs, rfl, fun b' hb' => ?_, .inl ⟨b, rfl, memB_not (by rw [hd]; simp), memB_not (by rw [hfz]; simp), hb⟩, by rw [← hx, ← hz]; rfl⟩⟩
  exfalso
  rw [frzL_eq] at hf
  have : b' ∈ [x, z].flatMap frzOf := hb'
  rw [hf] at this
  simp at this
theorem RetQ.mix3n {tt : TT} {r1 r2 r3 : ResultVar} {e : Exit} {S : St} {x z x' z' : AV} {e' sz : Nat} (he : e = .normal ∨ e = .ret) (h1 : resV tt S r1 = some x) (h2 : resV tt S r2 = some .nil) (h3 : resV tt S r3 = some z) (hf : frzL [x, z] = [])
    (hx : thawF (nthB S.bx) x = x') (hz : thawF (nthB S.bx) z = z') : RetQ tt [r1, r2, r3] (.mix [x'] e' sz [] [z']) e S := by
  refine ⟨he, [x, .nil, z], by simp only [resVs, h1, h2, h3], .inr ⟨[x], .nil, [z], e', sz, [], rfl, fun b' hb' => ?_, .inr ⟨rfl, rfl⟩, by rw [← hx, ← hz]; rfl⟩⟩
  exfalso
  rw [frzL_eq] at hf
  have : b' ∈ [x, z].flatMap frzOf := hb'
  rw [hf] at this
  simp at this
/-- A list of one's own, a thing. -/
theorem RetQ.mix2 {tt : TT} {r1 r2 : ResultVar} {e : Exit} {S : St} {z z' : AV} {b e' sz : Nat} {rs : List (List C)} (he : e = .normal ∨ e = .ret) (h1 : resV tt S r1 = some (.own b)) (h2 : resV tt S r2 = some z) (hf : ∀ b' ∈ frzOf z, memB b' S.dead = false ∧ b' ≠ b)
    (hd : memB b S.dead = false) (hfz : memB b S.fz = false) (hb : nthB S.bx b = some (.rows e' sz rs)) (hz : thawF (nthB S.bx) z = z') : RetQ tt [r1, r2] (.mix [] e' sz rs [z']) e S := by
  refine ⟨he, [.own b, z], by simp only [resVs, h1, h2], .inr ⟨[], .own b, [z], e', sz, rs, rfl, fun b' hb' => ?_, .inl ⟨b, rfl, memB_not (by rw [hd]; simp), memB_not (by rw [hfz]; simp), hb⟩, by rw [← hz]; rfl⟩⟩
  have : b' ∈ frzOf z := by simpa using hb'
  obtain ⟨q1, q2⟩ := hf b' this
  exact ⟨memB_not (by rw [q1]; simp), fun h => by injection h with h; exact q2 h.symm⟩
end Go.Vam
