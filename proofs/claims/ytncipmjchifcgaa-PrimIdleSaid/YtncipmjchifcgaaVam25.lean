/- An abstract machine over data (part 25): calls handed nil as nil; cap of nil, nil cut, zeros behind nil. -/
import Derived.Test.YtncipmjchifcgaaVam24
import Derived.Lib.AppendZeros
namespace Go.Vam
open Go.RowKit
set_option linter.unusedVariables false
set_option linter.unusedSimpArgs false
section
variable {E : En} {Q : Exit → St → Prop} {o : Oper} {l : List Oper} {ds : List (Option Nat)} {ks : List Fr} {S : St}
theorem Go.post (hE : EOk E) {e : Eff} (n : Nat) (hfr : ∀ b ∈ e.frz, b < S.bx.length ∨ (b = S.bx.length ∧ e.nw.isSome = true)) (hk : ∀ b ∈ e.kill, b < S.bx.length)
    (h : ∀ Z β a w, Sim E S Z β a w → WR E.base w Z β (fun b => b < S.bx.length) (fun b => b < S.bx.length ∧ b ∉ S.dead) (fun b => b ∈ S.fz) (nthB (S.app o.dst e).bx) w →
      OpRun E.P o a w (Post E.base w Z β (fun b => b < S.bx.length) (fun b => b < S.bx.length ∧ b ∉ S.dead) (fun b => b ∈ S.fz) (nthB (S.app o.dst e).bx) S.bx.length e w))
    (k : evF E Q n (.ops 0 l ds none :: ks) (S.app o.dst e)) : HardOp E Q o l ds none ks S := fun hdst hn =>
  HardOp.opK (K := fun S' => S' = S.app o.dst e) (OpK.ofPost hn hdst hfr hk h rfl) (fun S' h => by subst h; exact evF_sound hE n _ _ k) hn
theorem nilV {Z : Zone} {w : World} {β : Nat → Value} {cr : Nat → Prop} {v : Value} (h : AR Z w β cr .nil v) : v = .slice none 0 0 := by cases h; rfl
theorem HardOp.capNil (hE : EOk E) {tt' : TT} (ht : E.tt = tt') {x : Operand} {t e : TypeId} {i : TyI} (n : Nat) (hop : o.op = .call { callee := .builtin .cap, args := #[x], argTypes := #[t] }) (hi : tt' t = some i) (hsl : i.sl = some e) (hx : evT S.tm x = .nil)
    (k : evF E Q n (.ops 0 l ds none :: ks) (S.app o.dst { res := .c (.sc (.int .i64 0)) })) : HardOp E Q o l ds none ks S :=
  Go.post hE n (by simp) (by simp) (fun Z β a w hs hW => by
    have e1 := hs.evT x
    rw [hx] at e1
    have hu := (tyOk_spec (hE.1 t i (by rw [ht]; exact hi))).2.2.1 e hsl
    refine op_quiet (v := .int .i64 0) hW ?_ (.c _ _ (.sc _ rfl))
    simp [execOp, hop, resolve, invoke, builtin, nilV e1, Builtin.cap_, underlying, hu, goInt]) k
theorem HardOp.sliceNil (hE : EOk E) {tt' : TT} (ht : E.tt = tt') {x y : Operand} {t e : TypeId} {i ie : TyI} (n : Nat) (hop : o.op = .slice t x none (some y) none) (hi : tt' t = some i) (hsl : i.sl = some e) (hie : tt' e = some ie) (hx : evT S.tm x = .nil) (hy : evT S.tm y = .c (.sc (.int .i64 0)))
    (k : evF E Q n (.ops 0 l ds none :: ks) (S.app o.dst { res := .nil })) : HardOp E Q o l ds none ks S :=
  Go.post hE n (by simp) (by simp) (fun Z β a w hs hW => by
    have e1 := hs.evT x
    rw [hx] at e1
    have e2 := hs.evT y
    rw [hy] at e2
    have hu := (tyOk_spec (hE.1 t i (by rw [ht]; exact hi))).2.2.1 e hsl
    obtain ⟨inf, hinf, hinfn, _⟩ := (tyOk_spec (hE.1 e ie (by rw [ht]; exact hie))).2.1
    refine op_quiet (v := .slice none 0 0) hW ?_ .nil
    have hU : (underlying t).run E.P w = .ok (.slice e) w := by simp [underlying, hu]
    have hS : (sizeOf e).run E.P w = .ok ie.n w := by simp [sizeOf, typeInfo, hinf, hinfn]
    have hB : (Instr.sliceBounds true 0 0 none (some (.int .i64 0)) none).run E.P w = .ok (0, 0, 0) w := by simp [Instr.sliceBounds, Instr.sliceBound, asIntOf]
    simp only [execOp, hop, nilV e1, e2.sc_inv.1, Option.map_none, Option.map_some, Instr.sliceAt, Instr.slice, Sem.run_bind, hU, hS, hB, Result.andThen_ok, Sem.run_pure]
    rfl) k
theorem size_emp (s : ByteArray) (h : s.size = 0) : s = ⟨#[]⟩ := by
  obtain ⟨a⟩ := s
  have ha : a = #[] := Array.eq_empty_of_size_eq_zero h
  rw [ha]
theorem zeroCells_one (u : Value) (n : Nat) : (Builtin.zeroCells #[u] n).toList = List.replicate n u := by
  refine List.ext_getElem (by simp [Builtin.zeroCells]) fun i h1 h2 => ?_
  simp [Builtin.zeroCells, Nat.mod_one]
/-- Zeros behind nil, each of one cell. -/
theorem HardOp.growNil (hE : EOk E) {tt' : TT} (ht : E.tt = tt') {x y : Operand} {t t' e : TypeId} {i ie : TyI} {kn : IntKind} {m : Nat} (n : Nat) (hop : o.op = .call { callee := .builtin .append, args := #[x, y], argTypes := #[t, t'] }) (hi : tt' t = some i) (hsl : i.sl = some e) (hie : tt' e = some ie)
    (hkn : E.P.underlying t' = some (.int kn)) (hn1 : ie.n = 1) (hz : ie.zero = [.c (.sc (.string ⟨#[]⟩))]) (h0 : 0 < ie.bytes) (hx : evT S.tm x = .nil) (hy : evT S.tm y = .c (.sc (.int .i64 m))) (hm : 0 < m) (hb : m * ie.bytes ≤ 140737488355328)
    (k : evF E Q n (.ops 0 l ds none :: ks) (S.app o.dst { res := .own S.bx.length, nw := some (.rows e 1 (List.replicate m [.sc (.string ⟨#[]⟩)])) })) : HardOp E Q o l ds none ks S :=
  Go.post hE n (by simp) (by simp) (fun Z β a w hs hW => by
    have e1 := hs.evT x
    rw [hx] at e1
    have e2 := hs.evT y
    rw [hy] at e2
    have hu := (tyOk_spec (hE.1 t i (by rw [ht]; exact hi))).2.2.1 e hsl
    obtain ⟨inf, hinf, hinfn, hinfb, hzero⟩ := (tyOk_spec (hE.1 e ie (by rw [ht]; exact hie))).2.1
    obtain ⟨z, hz1, hz2, hz3, hz4⟩ := hzero (by rw [hz]; simp)
    rw [hn1] at hz2
    have hmb : m ≤ 140737488355328 := Nat.le_trans (Nat.le_mul_of_pos_right m h0) hb
    have hzc : z.cells = #[.string ⟨#[]⟩] := by
      obtain ⟨v, hv⟩ := Array.size_eq_one_iff.1 hz2
      have := (hz4 0 _ v (by rw [hz]; rfl) (by rw [hv]; rfl)).1
      rw [hv]
      cases v <;> try (simp [isZeroOf] at this; done)
      rename_i s
      have h2 : s.size = 0 := by
        simp only [isZeroOf, Bool.and_eq_true, beq_iff_eq] at this
        exact this.2
      rw [size_emp _ h2]
    have hr := Lib.run_append_nil_zeros (P := E.P) w t t' o.type e inf z .i64 kn hu hkn hinf hz1 m hm (by omega) (by omega) (by rw [hinfb]; omega)
    have hg : w.grownBy (w.drew.alloc (.cells (Builtin.zeroCells z.cells m ++ Builtin.zeroCells z.cells (grownCap w m 0 e - m)) e)) none := ⟨rfl, rfl, rfl, by simp, fun k hk _ => heap_alloc_old w.drew _ hk⟩
    have he : Ext Z Z w (w.drew.alloc (.cells (Builtin.zeroCells z.cells m ++ Builtin.zeroCells z.cells (grownCap w m 0 e - m)) e)) := ext_of_grown hg hW.zin (fun a _ => by simp)
    refine .value (v := .slice (some ⟨w.heap.size, 0, none⟩) m (grownCap w m 0 e)) (w' := w.drew.alloc (.cells (Builtin.zeroCells z.cells m ++ Builtin.zeroCells z.cells (grownCap w m 0 e - m)) e)) ?_ ?_
    · simp only [execOp, hop, resolve, invoke, builtin, Sem.run_bind, Sem.run_pure, Result.andThen_ok, List.map_toArray, List.map_cons, List.map_nil, nilV e1, e2.sc_inv.1, hr]
    · have hge := grownCap_ge w m 0 e
      have hlist : (Builtin.zeroCells z.cells m ++ Builtin.zeroCells z.cells (grownCap w m 0 e - m)).toList = List.replicate (grownCap w m 0 e) (.string ⟨#[]⟩) := by
        rw [Array.toList_append, hzc, zeroCells_one, zeroCells_one, List.replicate_append_replicate]
        congr 1; omega
      refine Post.alloc (u := .slice (some ⟨w.heap.size, 0, none⟩) m (grownCap w m 0 e)) hW (by simp) (by simp [St.app, addB, nthB_eq]) hg (fun g h => by simp [blk] at h; omega) (fun β' cr' fz' hb hc hu' => ?_) (fun β' cr' hb hc hu' => by rw [← hu']; exact .own _ hc)
      refine .rows e 1 _ (List.replicate m (.string ⟨#[]⟩)) ?_ (fun j row hj => ?_) (fun j row i c v h1 h2 h3 => ?_) (fun g hg' a ha e1 => ?_) (fun _ g hg' a ha e1 => ?_)
      · rw [hu', List.length_replicate]
        refine ⟨by simp, .inr ⟨w.heap.size, _, _, rfl, hW.hbase, heap_alloc_new w.drew _, hge, grownCap_le_maxLen w m 0 e (by simp only [maxLen]; omega), ?_, ?_⟩⟩
        · have := congrArg List.length hlist
          simpa using this
        · rw [hlist, List.take_replicate]
          congr 1; omega
      · have := List.eq_of_mem_replicate (List.mem_of_getElem? hj)
        subst this; rfl
      · have := List.eq_of_mem_replicate (List.mem_of_getElem? h1)
        subst this
        have hv := List.eq_of_mem_replicate (List.mem_of_getElem? h3)
        subst hv
        have hi0 : i = 0 := by
          have := (List.getElem?_eq_some_iff.1 h2).1
          simpa using this
        subst hi0
        simp only [List.getElem?_cons_zero, Option.some.injEq] at h2
        subst h2
        exact .sc _ rfl
      · rw [hu'] at hg'
        simp [Value.ownBlock] at hg'
        have := hW.zin a ha
        omega
      · rw [hu'] at hg'
        simp [Value.ownBlock] at hg'
        have := hW.zin a ha
        omega) k
/-- The first ones, and no room behind them. -/
theorem HardOp.slice3 (hE : EOk E) {dr : Dr} {tt' : TT} (ht : E.tt = tt') {x y z : Operand} {t e : TypeId} {i ie : TyI} {rows : List (List C)} {k1 k2 : IntKind} {h m : Int} (n : Nat) (hop : o.op = .slice t x none (some y) (some z)) (hi : tt' t = some i) (hsl : i.sl = some e) (hie : tt' e = some ie)
    (hx : evT S.tm x = .c (.sl rows)) (hy : evT S.tm y = .c (.sc (.int k1 h))) (hz : evT S.tm z = .c (.sc (.int k2 m))) (hr : rowLen ie.n rows) (h0 : 0 ≤ h) (h1 : h ≤ m) (h2 : m ≤ rows.length)
    (k : evF E Q n (.ops 0 l ds (advT dr o S { res := .c (.sl (rows.take h.toNat)) }) :: ks) (S.app o.dst { res := .c (.sl (rows.take h.toNat)) })) : HardOp E Q o l ds dr ks S := fun hdst => by
  refine GoK.loc hE ?_ hdst (evF_sound hE n _ _ k)
  unfold LoclS Locl
  rw [hop]
  simp only [hx, ht]
  exact ⟨i, e, ie, hi, hsl, hie, hr, h, by rw [hy]; rfl, by omega, h0, by omega, by simp, ⟨m, by rw [hz]; rfl, h1, h2⟩, rfl⟩
/-- What a call is handed, nil kept as nil. -/
def thawN (bx : Nat → Option Bx) : AV → AV
  | .nil => .nil
  | x => thawF bx x
theorem thawN_or (bx : Nat → Option Bx) (x : AV) : thawN bx x = thawF bx x ∨ (x = .nil ∧ thawN bx x = .nil) := by
  unfold thawN
  split
  · exact .inr ⟨rfl, rfl⟩
  · exact .inl rfl
theorem CallG.own0 (hE : EOk E) {P : Program} (hP : E.P = P) {g : FuncId} {raw args : List AV} {e sz : Nat} {rs : List (List C)} (n : Nat) (hok : Ok P g args (.own e sz rs)) (ha : (raw.map (thawN (nthB S.bx))) = args) (hd : (raw.flatMap frzOf) = [])
    (k : evF E Q n (.ops 0 l ds none :: ks) (S.app o.dst { res := .own S.bx.length, nw := some (.rows e sz rs) })) : CallG E Q o l ds none ks S g raw [] := fun hf => by
  obtain ⟨fo, az, ts, hop, hfo, hraw⟩ := hf
  refine Go.post hE n (by simp) (by simp) (fun Z β a w hs hW => ?_) k
  have e1 := hs.evT fo
  rw [hfo] at e1
  rw [mapN_eq] at hraw
  have h := op_callW (P := E.P) (θ := thawN (nthB (S.app o.dst { res := .own S.bx.length, nw := some (.rows e sz rs) }).bx)) (r := .own e sz rs) (nb := S.bx.length) (thawN_or _) hop hW e1 (ρ := evT S.tm) (fun x _ => hs.evT x) ?_ ?_ ?_
  · have hz : (az.toList.flatMap fun x => frzOf (evT S.tm x)) = [] := by rw [← hd, ← hraw, List.flatMap_map]
    rw [hz] at h
    exact h
  · intro x hx b hb
    exfalso
    have : b ∈ raw.flatMap frzOf := by rw [← hraw, List.flatMap_map]; exact List.mem_flatMap.2 ⟨x, by simpa using hx, hb⟩
    rw [hd] at this
    simp at this
  · have hnf : ∀ x ∈ raw, thawN (nthB (S.app o.dst { res := .own S.bx.length, nw := some (.rows e sz rs) }).bx) x = thawN (nthB S.bx) x := fun x hx => by
      have : frzOf x = [] := List.eq_nil_iff_forall_not_mem.2 fun b hb => by
        have : b ∈ raw.flatMap frzOf := List.mem_flatMap.2 ⟨x, hx, hb⟩
        rw [hd] at this
        simp at this
      cases x <;> first | rfl | simp [frzOf] at this
    have : (az.toList.map fun x => thawN (nthB (S.app o.dst { res := .own S.bx.length, nw := some (.rows e sz rs) }).bx) (evT S.tm x)) = args := by
      rw [← ha, ← List.map_congr_left hnf, ← hraw, List.map_map]
      rfl
    rw [this, hP]
    simpa using hok
  · intro e' sz' rs' h
    injection h with h1 h2 h3
    subst h1; subst h2; subst h3
    exact ⟨by simp, fun h => by have := hs.fl _ h; omega, by simp [St.app, addB, nthB_eq]⟩
end
end Go.Vam
