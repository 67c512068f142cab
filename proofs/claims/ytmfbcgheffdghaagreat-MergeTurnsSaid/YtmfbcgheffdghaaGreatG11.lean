/- An abstract machine over data (part 30): maps of one's own whose keys are structs of two ints. -/
import Derived.Test.YtmfbcgheffdghaaGreatG10
import Derived.Maps.Keyed
import Derived.DeepKeys4
import Derived.Test.YtmfbcgheffdghaaGreatG6
import Derived.Test.YtmfbcgheffdghaaGreatG9
set_option linter.unusedSimpArgs false
set_option linter.unusedVariables false
namespace Go.Vam
open Go.RowKit
set_option linter.unusedVariables false
set_option linter.unusedSimpArgs false

/-- The keys of this type read as keys. -/
def KeysOk (P : Program) (kt : TypeId) (ks : List (Int × Int)) : Prop := ∀ k ∈ ks, ∃ l, keyOf P kt (keyV k) = some l
theorem keyV_inj {a b : Int × Int} (h : keyV a = keyV b) : a = b := by
  simp only [keyV, Value.agg.injEq] at h
  have := congrArg Array.toList h
  simp at this
  exact Prod.ext this.1 this.2
theorem agg_two {Z : Zone} {w : World} {β : Nat → Value} {cr : Nat → Prop} {x : AV} {v : Value} {q : Int × Int} (h : AR Z w β cr x v) (hx : x = .agg [.sc (.int .i64 q.1), .sc (.int .i64 q.2)]) : v = keyV q := by
  subst hx
  cases h with
  | agg _ vs hl h =>
    obtain ⟨vl⟩ := vs
    match vl, hl with
    | [u1, u2], _ =>
      have h0 := (h 0 _ u1 rfl rfl)
      have h1 := (h 1 _ u2 rfl rfl)
      cases h0
      cases h1
      rfl
/-- What a map holds when a key is set. -/
def putK (ks : List (Int × Int)) (k : Int × Int) : List (Int × Int) := if k ∈ ks then ks else ks ++ [k]
section
variable {P : Program} {base : Nat} {w0 : World} {Z : Zone} {β : Nat → Value} {cr lv fz : Nat → Prop} {bx : Nat → Option Bx} {nb : Nat} {w : World} {a : Act} {o : Oper}
theorem op_mkMap {t : TypeId} (ho : o.op = .makeMap t none) (hW : WR base w0 Z β cr lv fz bx w) (hnb : ¬ cr nb) (hbx : bx nb = some (.mp [])) :
    OpRun P o a w (Post base w0 Z β cr lv fz bx nb { res := .own nb, nw := some (.mp []) } w) := by
  refine .value (v := .map (some w.heap.size)) (w' := w.alloc (.map #[] 0)) ?_ ?_
  · simp [execOp, ho, Instr.makeMap, newObj]
    rfl
  · have hg := grown_alloc w (.map #[] 0)
    refine Post.alloc (u := .map (some w.heap.size)) hW hnb hbx hg (fun g h => by simp [blk] at h; omega) (fun β' cr' fz' hb hn hu => ?_) (fun β' cr' hb hn hu => hu ▸ .own nb hn)
    refine .mp [] w.heap.size #[] 0 hu hW.hbase (heap_alloc_new w _) rfl (fun a ha e => ?_)
    have := hW.zin a ha
    omega
theorem mp_get {ks : List (Int × Int)} {v : Value} {b : Nat} (hW : WR base w0 Z β cr lv fz bx w) (hx : AR Z w β cr (.own b) v) (hlv : lv b) (hb : bx b = some (.mp ks)) :
    ∃ g es clock, v = .map (some g) ∧ β b = .map (some g) ∧ base ≤ g ∧ w.heap[g]? = some (.map es clock) ∧ es.toList.map (fun e => (e.key, e.val)) = (ks.map fun k => (keyV k, Value.bool true)) ∧ ∀ a, Z a → a.block ≠ g := by
  obtain ⟨y, hy, hB⟩ := hW.box b hlv
  rw [hb] at hy
  injection hy with hy
  subst hy
  cases hx with
  | own _ hcb =>
    cases hB with
    | mp _ g es clock hv hg hh hk hz => exact ⟨g, es, clock, hv, hv, hg, hh, hk, hz⟩
theorem mp_find {P : Program} {kt : TypeId} (K : Maps.Keyed P kt) {ks : List (Int × Int)} {k : Int × Int} {es : Array MapEntry} (hks : KeysOk P kt (k :: ks)) (hk : es.toList.map (fun e => (e.key, e.val)) = (ks.map fun k => (keyV k, Value.bool true))) (w : World) :
    ((Instr.findKey kt (keyV k) es.toList).run P w = .ok none w ∧ k ∉ ks) ∨ ∃ j e, (Instr.findKey kt (keyV k) es.toList).run P w = .ok (some (j, Value.bool true)) w ∧ es.toList[j]? = some e ∧ e.key = keyV k ∧ e.val = Value.bool true ∧ k ∈ ks := by
  have hes : ∀ e ∈ es.toList, ∃ k' ∈ ks, e.key = keyV k' ∧ e.val = .bool true := fun e he => by
    have h1 : (e.key, e.val) ∈ es.toList.map (fun e => (e.key, e.val)) := List.mem_map.2 ⟨e, he, rfl⟩
    rw [hk] at h1
    obtain ⟨k', h2, h3⟩ := List.mem_map.1 h1
    simp only [Prod.mk.injEq] at h3
    exact ⟨k', h2, h3.1.symm, h3.2.symm⟩
  obtain ⟨lx, hlx⟩ := hks k (by simp)
  rcases K.find w hlx es.toList (fun e he => by obtain ⟨k', h1, h2, _⟩ := hes e he; rw [h2]; exact hks k' (by simp [h1])) with ⟨h1, h2⟩ | ⟨j, e, h1, h2, h3⟩
  · refine .inl ⟨h1, fun hm => ?_⟩
    have h4 : (keyV k, Value.bool true) ∈ (ks.map fun k => (keyV k, Value.bool true)) := List.mem_map.2 ⟨k, hm, rfl⟩
    rw [← hk] at h4
    obtain ⟨e, he, h5⟩ := List.mem_map.1 h4
    simp only [Prod.mk.injEq] at h5
    exact h2 e he h5.1
  · obtain ⟨k', h4, h5, h6⟩ := hes e (List.mem_of_getElem? h2)
    have : k = k' := keyV_inj (h3.symm.trans h5)
    subst this
    exact .inr ⟨j, e, by rw [h1, h6], h2, h3, h6, h4⟩
end
section
variable {E : En} {Q : Exit → St → Prop} {o : Oper} {l : List Oper} {ds : List (Option Nat)} {ks : List Fr} {S : St}
theorem HardOp.mkMap (hE : EOk E) {t : TypeId} (n : Nat) (hop : o.op = .makeMap t none)
    (k : evF E Q n (.ops 0 l ds none :: ks) (S.app o.dst { res := .own S.bx.length, nw := some (.mp []) })) : HardOp E Q o l ds none ks S :=
  Go.post hE n (by simp) (by simp) (fun Z β a w hs hW => op_mkMap hop hW (Nat.lt_irrefl _) (app_bx_new S o.dst _ _ rfl)) k
theorem HardOp.mapLen (hE : EOk E) {x : Operand} {t kt et : TypeId} {m : List (Int × Int)} {b : Nat} (n : Nat) (hop : o.op = .call { callee := .builtin .len, args := #[x], argTypes := #[t] }) (hu : E.P.underlying t = some (.map kt et))
    (hx : evT S.tm x = .own b) (hd : memB b S.dead = false) (hb : nthB S.bx b = some (.mp m))
    (k : evF E Q n (.ops 0 l ds none :: ks) (S.app o.dst { res := .c (.sc (.int .i64 m.length)) })) : HardOp E Q o l ds none ks S :=
  have hbl : b < S.bx.length := by rw [nthB_eq] at hb; exact (List.getElem?_eq_some_iff.1 hb).1
  Go.post hE n (by simp) (by simp) (fun Z β a w hs hW => by
    have e1 := hs.evT x
    rw [hx] at e1
    obtain ⟨g, es, clock, h1, h2, h3, h4, h5, h6⟩ := mp_get hs.wr e1 ⟨hbl, memB_not (by rw [hd]; simp)⟩ hb
    have hsz : es.size = m.length := by have := congrArg List.length h5; simpa using this
    refine op_quiet (v := .int .i64 m.length) hW ?_ (.c _ _ (.sc _ rfl))
    simp [execOp, hop, resolve, invoke, builtin, h1, Builtin.len_, underlying, hu, goInt, MapKept.run_getObj_map h4, hsz]) k
theorem HardOp.mapGet (hE : EOk E) {x y : Operand} {t kt et : TypeId} {m : List (Int × Int)} {b : Nat} {q : Int × Int} (n : Nat) (hop : o.op = .lookup t x y false) (hu : E.P.underlying t = some (.map kt et)) (K : Maps.Keyed E.P kt) (hz : ∀ w, (zeroValue et).run E.P w = .ok (.bool false) w)
    (hx : evT S.tm x = .own b) (hy : evT S.tm y = .agg [.sc (.int .i64 q.1), .sc (.int .i64 q.2)]) (hks : KeysOk E.P kt (q :: m)) (hd : memB b S.dead = false) (hb : nthB S.bx b = some (.mp m))
    (k : evF E Q n (.ops 0 l ds none :: ks) (S.app o.dst { res := .c (.sc (.bool (decide (q ∈ m)))) })) : HardOp E Q o l ds none ks S :=
  have hbl : b < S.bx.length := by rw [nthB_eq] at hb; exact (List.getElem?_eq_some_iff.1 hb).1
  Go.post hE n (by simp) (by simp) (fun Z β a w hs hW => by
    have e1 := hs.evT x
    rw [hx] at e1
    have e2 := agg_two (hs.evT y) hy
    obtain ⟨g, es, clock, h1, h2, h3, h4, h5, h6⟩ := mp_get hs.wr e1 ⟨hbl, memB_not (by rw [hd]; simp)⟩ hb
    refine op_quiet (v := .bool (decide (q ∈ m))) hW ?_ (.c _ _ (.sc _ rfl))
    obtain ⟨lq, hlq⟩ := hks q (by simp)
    rcases mp_find K hks h5 w with ⟨f1, f2⟩ | ⟨j, e, f1, f2, f3, f4, f5⟩
    · simp [execOp, hop, h1, e2, Instr.lookup, underlying, hu, MapKept.run_getObj_map h4, K.check w _ hlq, f1, hz, f2]
    · simp [execOp, hop, h1, e2, Instr.lookup, underlying, hu, MapKept.run_getObj_map h4, K.check w _ hlq, f1, f5]) k
theorem OpK.mapSet (hE : EOk E) {K : St → Prop} {x y z : Operand} {t kt et : TypeId} {m : List (Int × Int)} {b : Nat} {q : Int × Int} (hop : o.op = .mapUpdate t x y z) (hu : E.P.underlying t = some (.map kt et)) (K0 : Maps.Keyed E.P kt) (hn : E.n0 ≤ S.bx.length) (hdst : dstOk S.nt o.dst = true)
    (hx : evT S.tm x = .own b) (hy : evT S.tm y = .agg [.sc (.int .i64 q.1), .sc (.int .i64 q.2)]) (hz : evT S.tm z = .c (.sc (.bool true))) (hks : KeysOk E.P kt (q :: m)) (hd : b ∉ S.dead) (hb : nthB S.bx b = some (.mp m))
    (hK : K (S.setB o.dst b (.mp (putK m q)))) : OpK E o S K := fun Z β a w hs => by
  have hbl : b < S.bx.length := by rw [nthB_eq] at hb; exact (List.getElem?_eq_some_iff.1 hb).1
  have e1 := hs.evT x
  rw [hx] at e1
  have e2 := agg_two (hs.evT y) hy
  have e3 : a.eval z = .bool true := by
    have := hs.evT z
    rw [hz] at this
    exact this.bool_inv
  obtain ⟨g, es, clock, h1, h2, h3, h4, h5, h6⟩ := mp_get hs.wr e1 ⟨hbl, hd⟩ hb
  have hgl : g < w.heap.size := (Array.getElem?_eq_some_iff.1 h4).1
  obtain ⟨lq, hlq⟩ := hks q (by simp)
  have key : ∃ es' clock', (Instr.mapUpdate t (.map (some g)) (keyV q) (.bool true)).run E.P w = .ok () (w.putObj g (.map es' clock')) ∧ es'.toList.map (fun e => (e.key, e.val)) = ((putK m q).map fun k => (keyV k, Value.bool true)) := by
    rcases mp_find K0 hks h5 w with ⟨f1, f2⟩ | ⟨j, e, f1, f2, f3, f4, f5⟩
    · refine ⟨es.push ⟨keyV q, .bool true, clock⟩, clock + 1, ?_, ?_⟩
      · simp [Instr.mapUpdate, underlying, hu, MapKept.run_getObj_map h4, K0.check w _ hlq, f1, MapKept.run_setObj_map _ h4, Result.andThen, World.putObj]
        try rfl
      · simp [putK, f2, h5]
    · refine ⟨es.modify j (fun e' => { e' with key := keyV q, val := .bool true }), clock, ?_, ?_⟩
      · have hj : es[j]? = some e := by simpa using f2
        simp [Instr.mapUpdate, underlying, hu, MapKept.run_getObj_map h4, K0.check w _ hlq, f1, hj, f3, K0.stays w hlq, MapKept.run_setObj_map _ h4, Result.andThen, World.putObj]
        try rfl
      · rw [show putK m q = m by simp [putK, f5], ← h5, Array.toList_modify, ChangeMaps.modify_eq_set _ _ _ _ f2]
        have hl : j < es.toList.length := (List.getElem?_eq_some_iff.1 f2).1
        refine List.ext_getElem (by simp) fun i i1 i2 => ?_
        simp only [List.getElem_map, List.getElem_set]
        split
        · rename_i hji
          subst hji
          have : es.toList[j] = e := (List.getElem?_eq_some_iff.1 f2).2
          simp only [this, f3, f4]
        · rfl
  obtain ⟨es', clock', r1, r2⟩ := key
  have hrun : (execOp a.eval o).run E.P w = .ok .skip (w.putObj g (.map es' clock')) := by
    simp [execOp, hop, h1, e2, e3, r1]
  unfold OpRun
  rw [hrun]
  generalize hw' : w.putObj g (.map es' clock') = w' at *
  have hgr : w.grownBy w' (some g) := by rw [← hw']; exact grownBy_putObj' w g _
  have he : Ext Z Z w w' := ext_of_grown hgr hs.wr.zin (fun a ha e => h6 a ha (by simpa using e))
  have hnew : w'.heap[g]? = some (.map es' clock') := by rw [← hw']; exact World.putObj_heap_same hgl
  have hkd : KeepsD w w' := ⟨hgr.size, fun k hk => by
    refine (hgr.block k (Array.getElem?_eq_some_iff.1 hk).1 (fun e => ?_)).trans hk
    injection e with e
    subst e
    rw [h4] at hk
    simp at hk⟩
  have hg : GSim E S.nt (look S.tm) (fun b => b < S.bx.length) (fun b => b < S.bx.length ∧ b ∉ S.dead) (fun b => b ∈ S.fz) (upd (nthB S.bx) b (some (.mp (putK m q)))) Z β a w' := by
    refine ⟨⟨hs.wr.below.grown hgr hs.wr.hbase (fun k e => by injection e with e; omega), Nat.le_trans hs.wr.hbase hgr.size, fun a ha => Nat.lt_of_lt_of_le (hs.wr.zin a ha) hgr.size, hs.wr.zsp, fun c hc' => ?_, hs.wr.dis, hs.wr.sub, ⟨Nat.le_trans hs.wr.oth.size hgr.size, fun k o hk ho => ?_⟩⟩, hs.z0, hs.zn, hs.tsz, fun t => (hs.tr t).ext he (fun b hb => ⟨hb, rfl⟩), hs.df.kept rfl hkd⟩
    · by_cases hcb : c = b
      · subst hcb
        exact ⟨_, by simp [upd], .mp _ g es' clock' h2 h3 hnew r2 h6⟩
      · obtain ⟨y, hy, hB'⟩ := hs.wr.box c hc'
        refine ⟨y, by simp only [upd, if_neg hcb]; exact hy, hB'.ext he (fun b h => ⟨h, rfl⟩) hc'.1 (fun g' hg' => hgr.block g' (hB'.blk_base hg').2 (fun e => ?_)) (fun g' hg' a ha e => .inl ha) id⟩
        injection e with e
        subst e
        exact hs.wr.dis c b g' hc' ⟨hbl, hd⟩ hcb hg' (by rw [h2]; rfl)
    · have hk' := hs.wr.oth.same k o hk ho
      refine (hgr.block k (Array.getElem?_eq_some_iff.1 hk').1 (fun e => ?_)).trans hk'
      injection e with e
      have h1 := (Array.getElem?_eq_some_iff.1 hk).1
      have h2 := hE.hb
      omega
  have hlen : (S.setB o.dst b (.mp (putK m q))).bx.length = S.bx.length := by simp [St.setB, setBx_eq]
  have hS : Sim E (S.setB o.dst b (.mp (putK m q))) Z β (a.put o.dst undef) w' := by
    refine ⟨(hg.skip hdst).mono (fun b h => by rw [hlen]; exact h) (fun b h => by rw [hlen] at h; exact h) (fun _ h => h) (fun b' hb' => ?_) (fun t => .inl (look_put _ _ _ _)), fun b hb => by rw [hlen]; exact hs.fl b hb, fun b hb => by rw [hlen]; exact hs.dl b hb⟩
    simp only [St.setB, nthB_eq, setBx_eq, upd]
    by_cases hbb : b' = b
    · subst hbb
      rw [List.getElem?_set_self hbl, if_pos rfl]
    · rw [List.getElem?_set_ne (fun e => hbb e.symm), if_neg hbb]
  exact ⟨_, Z, β, hS, ⟨he, fun _ _ => rfl, hkd⟩, by rw [hlen]; exact hn, hK⟩
theorem HardOp.mapSet (hE : EOk E) {x y z : Operand} {t kt et : TypeId} {m : List (Int × Int)} {b : Nat} {q : Int × Int} (n : Nat) (hop : o.op = .mapUpdate t x y z) (hu : E.P.underlying t = some (.map kt et)) (K0 : Maps.Keyed E.P kt)
    (hx : evT S.tm x = .own b) (hy : evT S.tm y = .agg [.sc (.int .i64 q.1), .sc (.int .i64 q.2)]) (hz : evT S.tm z = .c (.sc (.bool true))) (hks : KeysOk E.P kt (q :: m)) (hd : memB b S.dead = false) (hb : nthB S.bx b = some (.mp m))
    (k : evF E Q n (.ops 0 l ds none :: ks) (S.setB o.dst b (.mp (putK m q)))) : HardOp E Q o l ds none ks S := fun hdst hn =>
  HardOp.opK (K := fun S' => S' = S.setB o.dst b (.mp (putK m q))) (OpK.mapSet hE hop hu K0 hn hdst hx hy hz hks (memB_not (by rw [hd]; simp)) hb rfl) (fun S' h => by subst h; exact evF_sound hE n _ _ k) hn
end
/-- Structs of two ints are keys. -/
def keyTb (P : Program) (t ti : TypeId) : Bool := match (P.fieldsOf t).toList with
  | [f1, f2] => (f1.name != "_") && ((f2.name != "_") && ((f1.offset == 0) && ((f2.offset == 1) && ((f1.type == ti) && ((f2.type == ti) && ((P.cellsOf t == 2) && ((P.cellsOf ti == 1) && ((P.keyType t) && decide (0 < P.types.size)))))))))
  | _ => false
theorem keysOk_of {P : Program} {t ti : TypeId} (hu : P.underlying t = some (.struct (P.fieldsOf t))) (hf : keyTb P t ti = true) (hi : P.underlying ti = some (.int .i64)) {ks : List (Int × Int)}
    (h : ∀ k ∈ ks, (-9223372036854775808 ≤ k.1 ∧ k.1 ≤ 9223372036854775807) ∧ (-9223372036854775808 ≤ k.2 ∧ k.2 ≤ 9223372036854775807)) : KeysOk P t ks := fun k hk => by
  obtain ⟨⟨a1, a2⟩, a3, a4⟩ := h k hk
  unfold keyTb at hf
  split at hf
  · rename_i f1 f2 hfl
    simp only [Bool.and_eq_true, bne_iff_ne, ne_eq, beq_iff_eq, decide_eq_true_eq] at hf
    obtain ⟨b1, b2, b3, b4, b5, b6, b7, b8, b9, b10⟩ := hf
    obtain ⟨n, hn⟩ : ∃ n, P.types.size = n + 1 := ⟨P.types.size - 1, by omega⟩
    have hall : ((P.fieldsOf t).all fun f => f.name != "_") = true := by
      rw [← Array.all_toList, hfl]
      simp [b1, b2]
    have w1 : (Lit.int .i64 k.1).wf = true := by simp [Lit.wf, IntKind.min, IntKind.max, IntKind.bits, IntKind.signed]; omega
    have w2 : (Lit.int .i64 k.2).wf = true := by simp [Lit.wf, IntKind.min, IntKind.max, IntKind.bits, IntKind.signed]; omega
    have hl1 : P.keyLits (n + 1) f1.type [Value.int .i64 k.1] = some [.int .i64 k.1] := by
      simp only [Program.keyLits, b5, hi, w1, and_self, if_true]
    have hl2 : P.keyLits (n + 1) f2.type [Value.int .i64 k.2] = some [.int .i64 k.2] := by
      simp only [Program.keyLits, b6, hi, w2, and_self, if_true]
    refine ⟨.string (keyBytes [.int .i64 k.1, .int .i64 k.2]), ?_⟩
    unfold keyOf
    rw [hu]
    simp only [b9, keyV, Value.formed, hu, b7, Bool.true_and]
    rw [hn]
    unfold Program.keyLits
    rw [hu]
    simp only [Value.cells, hfl, hall, b7, b3, b4, b5, b6, b8]
    simp [b5, b6] at hl1 hl2 ⊢
    rw [b3, b4]
    simp [b8, hl1, hl2]
  · simp at hf
end Go.Vam

/- An abstract machine over data (part 31): the rest of a list of one's own, made zero. -/
namespace Go.Vam
open Go.RowKit
set_option linter.unusedVariables false
set_option linter.unusedSimpArgs false
section
variable {E : En} {Q : Exit → St → Prop} {o : Oper} {l : List Oper} {ds : List (Option Nat)} {ks : List Fr} {S : St}
theorem HardOp.tail (hE : EOk E) {tt' : TT} (ht : E.tt = tt') {x y : Operand} {t e : TypeId} {it ie : TyI} {b i : Nat} {rs : List (List C)} (n : Nat) (hop : o.op = .slice t x (some y) none none) (hi : tt' t = some it) (hsl : it.sl = some e) (hie : tt' e = some ie)
    (hx : evT S.tm x = .own b) (hd : memB b S.dead = false) (hb : nthB S.bx b = some (.rows e ie.n rs)) (hy : evT S.tm y = .c (.sc (.int .i64 i))) (hlt : i < rs.length)
    (k : evF E Q n (.ops 0 l ds none :: ks) (S.app o.dst { res := .osl b i ie.n })) : HardOp E Q o l ds none ks S :=
  have hbl : b < S.bx.length := by rw [nthB_eq] at hb; exact (List.getElem?_eq_some_iff.1 hb).1
  Go.post hE n (by simp) (by simp) (fun Z β a w hs hW => by
    have e1 := hs.evT x
    rw [hx] at e1
    have e2 := hs.evT y
    rw [hy] at e2
    obtain ⟨z, hz, hB⟩ := hs.wr.box b ⟨hbl, memB_not (by rw [hd]; simp)⟩
    rw [hb] at hz
    injection hz with hz
    subst hz
    have hu := (tyOk_spec (hE.1 t it (by rw [ht]; exact hi))).2.2.1 e hsl
    obtain ⟨inf, hinf, hinfn, _⟩ := (tyOk_spec (hE.1 e ie (by rw [ht]; exact hie))).2.1
    have hU : (underlying t).run E.P w = .ok (.slice e) w := by simp [underlying, hu]
    have hS : (sizeOf e).run E.P w = .ok ie.n w := by simp [sizeOf, typeInfo, hinf, hinfn]
    have hv' : a.eval x = β b := by
      generalize hq : a.eval x = q at e1
      cases e1; rfl
    cases hB with
    | rows _ _ _ inner hown hr hc htt hz =>
      rcases hown.2 with ⟨hv, hn⟩ | ⟨g, cap, cur, hv, hbs, hh, hnc, hcm, hcs, htake⟩
      · omega
      · refine op_quiet (v := .slice (some ⟨g, i * ie.n, none⟩) (rs.length - i) (cap - i)) hW ?_ (.osl b i ie.n g rs.length cap hbl hlt hv)
        have h1 : (Instr.sliceBounds true rs.length cap (some (.int .i64 i)) none none).run E.P w = .ok (i, rs.length, cap) w := by
          have : 0 ≤ (i : Int) ∧ (i : Int) ≤ (rs.length : Int) := ⟨by omega, by omega⟩
          simp [Instr.sliceBounds, Instr.sliceBound, asIntOf, this, Nat.le_of_lt hlt]
        simp only [execOp, hop, hv', hv, e2.sc_inv.1, Option.map_none, Option.map_some, Instr.sliceAt, Instr.slice, Sem.run_bind, hU, hS, h1, Result.andThen_ok, Sem.run_pure]
        have hne : ¬ (cap = i) := by omega
        simp [hne, add_lit]) k
theorem zeroC_get (zs : Array Value) (m k : Nat) (hz : 0 < zs.size) : (Builtin.zeroCells zs m).toList[k]? = if k < m * zs.size then some (zs[k % zs.size]'(Nat.mod_lt _ hz)) else none := by
  unfold Builtin.zeroCells
  rw [Array.toList_map, List.getElem?_map, Array.getElem?_toList]
  by_cases h : k < m * zs.size
  · rw [if_pos h, Array.getElem?_eq_getElem (by simp; exact h)]
    simp only [Array.getElem_range, Option.map_some]
    rw [getElem!_pos zs (k % zs.size) (Nat.mod_lt _ hz)]
  · rw [if_neg h, Array.getElem?_eq_none (by simp; omega)]
    rfl
theorem OpK.clr (hE : EOk E) {K : St → Prop} {tt' : TT} (ht : E.tt = tt') {x : Operand} {t e : TypeId} {it ie : TyI} {b i : Nat} {rs : List (List C)} {zr : List C} (hop : o.op = .call { callee := .builtin .clear, args := #[x], argTypes := #[t] }) (hi : tt' t = some it) (hsl : it.sl = some e) (hie : tt' e = some ie)
    (hn : E.n0 ≤ S.bx.length) (hdst : dstOk S.nt o.dst = true) (hdn : o.dst = none) (hx : evT S.tm x = .osl b i ie.n) (hd : b ∉ S.dead) (hfz : b ∉ S.fz) (hb : nthB S.bx b = some (.rows e ie.n rs)) (hlt : i < rs.length) (hz0 : ie.zero = zr.map .c) (hzn : zr ≠ [])
    (hK : K (S.setB o.dst b (.rows e ie.n (rs.take i ++ List.replicate (rs.length - i) zr)))) : OpK E o S K := by
  have hbl : b < S.bx.length := by rw [nthB_eq] at hb; exact (List.getElem?_eq_some_iff.1 hb).1
  intro Z β a w hs
  have e1 := hs.evT x
  rw [hx] at e1
  have hu := (tyOk_spec (hE.1 t it (by rw [ht]; exact hi))).2.2.1 e hsl
  obtain ⟨_, ⟨inf, hinf, hinfn, _, hzero⟩, _⟩ := tyOk_spec (hE.1 e ie (by rw [ht]; exact hie))
  obtain ⟨z, hz1, hz2, hz3, hz4⟩ := hzero (by rw [hz0]; simpa using hzn)
  have hzl : zr.length = ie.n := by rw [hz0] at hz3; simpa using hz3
  have hn0 : 0 < ie.n := by rw [← hzl]; exact List.length_pos_iff.2 hzn
  have hW0 := hs.wr.rebase
  obtain ⟨zz, hzz, hB⟩ := hW0.box b ⟨hbl, hd⟩
  rw [hb] at hzz
  injection hzz with hzz
  subst hzz
  have hB0 := hB
  cases hB with
  | rows _ _ _ inner hown hr hc htt hz =>
    rcases hown.2 with ⟨hv, hn'⟩ | ⟨g, cap, cur, hv, hbs, hh, hnc, hcm, hcs, htake⟩
    · omega
    · generalize hq : a.eval x = q at e1
      cases e1 with
      | osl _ _ _ g' n' cap' hcb hi' h =>
        rw [hv] at h
        simp only [Value.slice.injEq, Option.some.injEq, Addr.mk.injEq, and_true] at h
        obtain ⟨rfl, rfl, rfl⟩ := h
        have hzsl : (Builtin.zeroCells z.cells (rs.length - i)).toList.length = (rs.length - i) * ie.n := by rw [Array.length_toList]; simp [Builtin.zeroCells, hz2]
        generalize hzs : (Builtin.zeroCells z.cells (rs.length - i)).toList = zs at hzsl
        have hcapsz : rs.length * ie.n ≤ cap * ie.n := Nat.mul_le_mul_right _ hnc
        have hsum : i * ie.n + (rs.length - i) * ie.n = rs.length * ie.n := by rw [← Nat.add_mul]; congr 1; omega
        have hbound : i * ie.n + (rs.length - i) * ie.n ≤ cur.size := by rw [hsum, hcs]; exact hcapsz
        have hst := run_storeCells_at E.P g (i * ie.n) e zs 0 cur w hh (by simp; omega) (fun u hu => by
          obtain ⟨k, hk⟩ := List.mem_iff_getElem?.1 hu
          rw [← hzs, zeroC_get _ _ _ (by omega)] at hk
          split at hk
          · simp only [Option.some.injEq] at hk
            have hm : k % z.cells.size < z.cells.size := Nat.mod_lt _ (by omega)
            exact (hz4 (k % z.cells.size) _ u (List.getElem?_eq_getElem (by rw [hz3]; omega)) (by rw [Array.getElem?_eq_getElem hm, hk])).2
          · simp at hk)
        simp only [Nat.add_zero] at hst
        have hob : (β b).ownBlock = some g := by rw [hv]; rfl
        generalize harr : (cur.toList.take (i * ie.n) ++ zs ++ cur.toList.drop (i * ie.n + zs.length)).toArray = arr' at hst
        have hal : arr'.toList = cur.toList.take (i * ie.n) ++ zs ++ cur.toList.drop (i * ie.n + zs.length) := by rw [← harr]
        have hrun : (execOp a.eval o).run E.P w = .ok (.value (.tuple #[])) (w.setRow g arr') := by
          obtain ⟨m, hm⟩ : ∃ m, rs.length - i = m + 1 := ⟨rs.length - i - 1, by omega⟩
          rw [hm] at hzs hq
          simp [execOp, hop, resolve, invoke, builtin, hq, Builtin.clear_, underlying, hu, zeroValue, typeInfo, hinf, hz1, hm, hzs, hst]
        have hgr : w.grownBy (w.setRow g arr') (some g) := ⟨rfl, rfl, rfl, by simp, fun k hk hk' => setRow_other w g k _ (fun e => hk' (by rw [e]))⟩
        have he : Ext Z Z w (w.setRow g arr') := ext_of_grown hgr hs.wr.zin (fun a ha e => hz hfz g hob a ha (by simpa using e))
        have hlen' : (rs.take i ++ List.replicate (rs.length - i) zr).length = rs.length := by simp; omega
        have hbox : BoxR E.base Z (w.setRow g arr') β (fun b => b < S.bx.length) (fun b => b ∈ S.fz) b (.rows e ie.n (rs.take i ++ List.replicate (rs.length - i) zr)) := by
          refine .rows e ie.n _ (arr'.toList.take (rs.length * ie.n)) ⟨?_, .inr ⟨g, cap, arr', by rw [hlen']; exact hv, hbs, setRow_heap w g cur _ e _ hh, by rw [hlen']; exact hnc, hcm, ?_, by rw [hlen']⟩⟩ (fun j row hj => ?_) (fun j row k c u h1 h2 h3 => ?_) (fun g0 hg0 a ha e1 => by rw [hlen']; exact htt g0 hg0 a ha e1) hz
          · rw [List.length_take, hlen', hal]
            simp only [List.length_append, List.length_take, List.length_drop, Array.length_toList]
            omega
          · rw [← Array.length_toList, hal]
            simp only [List.length_append, List.length_take, List.length_drop, Array.length_toList]
            omega
          · by_cases hji : j < i
            · rw [List.getElem?_append_left (by simp; omega), List.getElem?_take, if_pos hji] at hj
              exact hr j row hj
            · rw [List.getElem?_append_right (by simp; omega)] at hj
              obtain ⟨hj1, hj2⟩ := List.getElem?_eq_some_iff.1 hj
              rw [List.getElem_replicate] at hj2
              rw [← hj2]; exact hzl
          · have hjl : j < rs.length := by rw [← hlen']; exact (List.getElem?_eq_some_iff.1 h1).1
            have hkl : k < ie.n := by
              have h4 := (List.getElem?_eq_some_iff.1 h2).1
              by_cases hji : j < i
              · rw [List.getElem?_append_left (by simp; omega), List.getElem?_take, if_pos hji] at h1
                rw [← hr j row h1]; exact h4
              · rw [List.getElem?_append_right (by simp; omega)] at h1
                obtain ⟨hj1, hj2⟩ := List.getElem?_eq_some_iff.1 h1
                rw [List.getElem_replicate] at hj2
                rw [← hzl, hj2]; exact h4
            have hjk := mul_lt hjl hkl
            rw [List.getElem?_take, if_pos hjk, hal, splice_get cur.toList zs (i * ie.n) _ (by rw [hzsl, Array.length_toList]; exact hbound), hzsl] at h3
            by_cases hji : j < i
            · have hjk' := mul_lt hji hkl
              rw [if_neg (by omega)] at h3
              rw [List.getElem?_append_left (by simp; omega), List.getElem?_take, if_pos hji] at h1
              exact (hc j row k c u h1 h2 (by rw [← htake, List.getElem?_take, if_pos hjk]; exact h3)).ext he
            · have hij : i * ie.n ≤ j * ie.n := Nat.mul_le_mul_right _ (by omega)
              rw [if_pos ⟨by omega, by omega⟩, ← hzs, zeroC_get _ _ _ (by omega)] at h3
              split at h3
              · simp only [Option.some.injEq] at h3
                rw [List.getElem?_append_right (by simp; omega)] at h1
                obtain ⟨hj1, hj2⟩ := List.getElem?_eq_some_iff.1 h1
                rw [List.getElem_replicate] at hj2
                subst hj2
                have hmod : (j * ie.n + k - i * ie.n) % z.cells.size = k := by
                  have e3 : ie.n * (j - i) = j * ie.n - i * ie.n := by rw [Nat.mul_comm, Nat.sub_mul]
                  rw [hz2, show j * ie.n + k - i * ie.n = k + ie.n * (j - i) by rw [e3]; omega, Nat.add_mul_mod_self_left]
                  exact Nat.mod_eq_of_lt hkl
                have h4 := hz4 k (.c c) u (by rw [hz0, List.getElem?_map, h2]; rfl) (by rw [← h3]; simp only [hmod]; rw [Array.getElem?_eq_getElem])
                have h5 := isZeroOf_AR (Z := Z) (w := w.setRow g arr') (β := β) (cr := fun b => b < S.bx.length) h4.1
                cases h5
                assumption
              · simp at h3
        have hW := (WR.store hW0 ⟨hbl, hd⟩ hb (by rw [hv]; rfl) hh (hz hfz g hob) hbox).1
        unfold OpRun
        rw [hrun]
        simp only
        have hg : GSim E S.nt (look S.tm) (fun b => b < S.bx.length) (fun b => b < S.bx.length ∧ b ∉ S.dead) (fun b => b ∈ S.fz) (upd (nthB S.bx) b (some (.rows e ie.n (rs.take i ++ List.replicate (rs.length - i) zr)))) Z β a (w.setRow g arr') :=
          ⟨hs.wr.join hW, hs.z0, hs.zn, hs.tsz, fun t => (hs.tr t).ext he (fun b hb => ⟨hb, rfl⟩), hs.df.kept rfl (.of hW.oth)⟩
        have hlen : (S.setB o.dst b (.rows e ie.n (rs.take i ++ List.replicate (rs.length - i) zr))).bx.length = S.bx.length := by simp [St.setB, setBx_eq]
        have hS : Sim E (S.setB o.dst b (.rows e ie.n (rs.take i ++ List.replicate (rs.length - i) zr))) Z β (a.put o.dst undef) (w.setRow g arr') := by
          refine ⟨(hg.skip hdst).mono (fun b h => by rw [hlen]; exact h) (fun b h => by rw [hlen] at h; exact h) (fun _ h => h) (fun b' hb' => ?_) (fun t => .inl (look_put _ _ _ _)), fun b hb => by rw [hlen]; exact hs.fl b hb, fun b hb => by rw [hlen]; exact hs.dl b hb⟩
          simp only [St.setB, nthB_eq, setBx_eq, upd]
          by_cases hbb : b' = b
          · subst hbb
            rw [List.getElem?_set_self hbl, if_pos rfl]
          · rw [List.getElem?_set_ne (fun e => hbb e.symm), if_neg hbb]
        rw [hdn] at hS ⊢
        exact ⟨_, Z, β, hS, ⟨he, fun _ _ => rfl, .of hW.oth⟩, by rw [hdn] at hlen; rw [hlen]; exact hn, by rw [hdn] at hK; exact hK⟩
theorem HardOp.clr (hE : EOk E) {tt' : TT} (ht : E.tt = tt') {x : Operand} {t e : TypeId} {it ie : TyI} {b i : Nat} {rs : List (List C)} {zr : List C} (n : Nat) (hop : o.op = .call { callee := .builtin .clear, args := #[x], argTypes := #[t] }) (hi : tt' t = some it) (hsl : it.sl = some e) (hie : tt' e = some ie)
    (hdn : o.dst = none) (hx : evT S.tm x = .osl b i ie.n) (hd : memB b S.dead = false) (hfz : memB b S.fz = false) (hb : nthB S.bx b = some (.rows e ie.n rs)) (hlt : i < rs.length) (hz0 : ie.zero = zr.map .c) (hzn : zr ≠ [])
    (k : evF E Q n (.ops 0 l ds none :: ks) (S.setB o.dst b (.rows e ie.n (rs.take i ++ List.replicate (rs.length - i) zr)))) : HardOp E Q o l ds none ks S := fun hdst hn =>
  HardOp.opK (K := fun S' => S' = S.setB o.dst b (.rows e ie.n (rs.take i ++ List.replicate (rs.length - i) zr))) (OpK.clr hE ht hop hi hsl hie hn hdst hdn hx (memB_not (by rw [hd]; simp)) (memB_not (by rw [hfz]; simp)) hb hlt hz0 hzn rfl) (fun S' h => by subst h; exact evF_sound hE n _ _ k) hn
end
end Go.Vam

/- An abstract machine over data (part 32): results: a list of one's own and two things. -/
namespace Go.Vam
open Go.RowKit
set_option linter.unusedVariables false
set_option linter.unusedSimpArgs false
/-- A list of one's own, two things. -/
theorem RetQ.mix12 {tt : TT} {r1 r2 r3 : ResultVar} {e : Exit} {S : St} {x z x' z' : AV} {b e' sz : Nat} {rs : List (List C)} (he : e = .normal ∨ e = .ret) (h1 : resV tt S r1 = some (.own b)) (h2 : resV tt S r2 = some x) (h3 : resV tt S r3 = some z) (hf : frzL [x, z] = [])
    (hd : memB b S.dead = false) (hfz : memB b S.fz = false) (hb : nthB S.bx b = some (.rows e' sz rs)) (hx : thawF (nthB S.bx) x = x') (hz : thawF (nthB S.bx) z = z') : RetQ tt [r1, r2, r3] (.mix [] e' sz rs [x', z']) e S := by
  refine ⟨he, [.own b, x, z], by simp only [resVs, h1, h2, h3], .inr ⟨[], .own b, [x, z], e', sz, rs, rfl, fun b' hb' => ?_, .inl ⟨b, rfl, memB_not (by rw [hd]; simp), memB_not (by rw [hfz]; simp), hb⟩, by rw [← hx, ← hz]; rfl⟩⟩
  exfalso
  rw [frzL_eq] at hf
  have : b' ∈ [x, z].flatMap frzOf := hb'
  rw [hf] at this
  simp at this
theorem RetQ.mix12n {tt : TT} {r1 r2 r3 : ResultVar} {e : Exit} {S : St} {x z x' z' : AV} {e' sz : Nat} (he : e = .normal ∨ e = .ret) (h1 : resV tt S r1 = some .nil) (h2 : resV tt S r2 = some x) (h3 : resV tt S r3 = some z) (hf : frzL [x, z] = [])
    (hx : thawF (nthB S.bx) x = x') (hz : thawF (nthB S.bx) z = z') : RetQ tt [r1, r2, r3] (.mix [] e' sz [] [x', z']) e S := by
  refine ⟨he, [.nil, x, z], by simp only [resVs, h1, h2, h3], .inr ⟨[], .nil, [x, z], e', sz, [], rfl, fun b' hb' => ?_, .inr ⟨rfl, rfl⟩, by rw [← hx, ← hz]; rfl⟩⟩
  exfalso
  rw [frzL_eq] at hf
  have : b' ∈ [x, z].flatMap frzOf := hb'
  rw [hf] at this
  simp at this
end Go.Vam

/- Plain laws: changes that undo one another. -/
namespace Go.Qm
open Go.RowKit Go.Vam
set_option linter.unusedSimpArgs false

theorem hunkEq_iff {a b : Hunk} : hunkEq a b = true ↔ a = b := by
  obtain ⟨a1, a2, a3⟩ := a
  obtain ⟨b1, b2, b3⟩ := b
  unfold hunkEq
  rw [Bool.and_eq_true, Bool.and_eq_true, strsEq_iff, strsEq_iff]
  simp only [beq_iff_eq, Hunk.mk.injEq, and_assoc]
theorem primEq_iff {a b : Prim} : primEq a b = true ↔ a = b := by
  obtain ⟨a1, a2, a3, a4⟩ := a
  obtain ⟨b1, b2, b3, b4⟩ := b
  unfold primEq
  rw [Bool.and_eq_true, Bool.and_eq_true, Bool.and_eq_true, hunkEq_iff]
  simp only [beq_iff_eq, decide_eq_true_eq, Prim.mk.injEq, and_assoc]
theorem primEq_refl (a : Prim) : primEq a a = true := primEq_iff.2 rfl
theorem snoc_ind {α : Type} {M : List α → Prop} (h0 : M []) (h1 : ∀ l x, M l → M (l ++ [x])) (l : List α) : M l := by
  rw [← l.reverse_reverse]
  induction l.reverse with
  | nil => exact h0
  | cons x l ih => rw [List.reverse_cons]; exact h1 _ _ ih
theorem all2_primEq : ∀ {a b : List Prim}, all2 primEq a b = true ↔ a = b
  | [], [] => by simp [all2]
  | x :: l, y :: m => by
    simp only [all2, Bool.and_eq_true, primEq_iff, List.cons.injEq]
    rw [all2_primEq]
  | [], _ :: _ => by simp [all2]
  | _ :: _, [] => by simp [all2]
theorem all2_refl (a : List Prim) : all2 primEq a a = true := all2_primEq.2 rfl

theorem idle_turn (p : Prim) : idleP (turnP p) = idleP p := by
  unfold idleP turnP
  by_cases h0 : p.kind = 0
  · simp [h0]
  · by_cases h1 : p.kind = 1
    · simp [h1]
    · by_cases h2 : p.kind = 2
      · simp [h2]
      · simp only [h0, h1, h2, if_false, turnH]
        congr 1
        rw [Bool.eq_iff_iff, strsEq_iff, strsEq_iff]
        exact eq_comm
abbrev tidyF (s l : List Prim) : List Prim := l.foldl tidyStep s
theorem tidyF_app (s a b : List Prim) : tidyF s (a ++ b) = tidyF (tidyF s a) b := List.foldl_append
theorem undoes_iff {a b : Prim} : undoes a b = true ↔ b = turnP a := primEq_iff
theorem undoes_no {a b : Prim} (h : undoes a b = false) : b ≠ turnP a := fun e => by
  rw [undoes_iff.2 e] at h
  simp at h

/-- One's last one is not undone by the next. -/
def Chain (s : List Prim) : Prop := tightL s = true
theorem chain_nil : Chain [] := by simp [Chain, tightL]
theorem chain_snoc {s : List Prim} {p : Prim} : Chain (s ++ [p]) ↔ Chain s ∧ idleP p = false ∧ ∀ q, s.getLast? = some q → p ≠ turnP q := by
  unfold Chain
  rw [tight_iff, tight_iff]
  constructor
  · intro h
    refine ⟨fun i hi => ?_, ?_, fun q hq => ?_⟩
    · have := h i (by simp; omega)
      refine ⟨by simpa [List.getElem_append_left hi] using this.1, fun h0 => ?_⟩
      have h2 := this.2 h0
      rw [List.getElem_append_left (by omega), List.getElem_append_left hi] at h2
      exact h2
    · have := (h s.length (by simp)).1
      simpa using this
    · rw [List.getLast?_eq_getElem?] at hq
      obtain ⟨hl, he⟩ := List.getElem?_eq_some_iff.1 hq
      have h2 := (h s.length (by simp)).2 (by omega)
      rw [List.getElem_append_left (by omega), List.getElem_append_right (by omega)] at h2
      simp only [Nat.sub_self, List.getElem_cons_zero] at h2
      rw [he] at h2
      exact undoes_no h2
  · rintro ⟨h1, h2, h3⟩ i hi
    by_cases his : i < s.length
    · have := h1 i his
      refine ⟨by simpa [List.getElem_append_left his] using this.1, fun h0 => ?_⟩
      rw [List.getElem_append_left (by omega), List.getElem_append_left his]
      exact this.2 h0
    · have hie : i = s.length := by simp at hi; omega
      subst hie
      refine ⟨by simpa using h2, fun h0 => ?_⟩
      rw [List.getElem_append_left (by omega), List.getElem_append_right (by omega)]
      simp only [Nat.sub_self, List.getElem_cons_zero]
      cases hu : undoes s[s.length - 1] p with
      | false => rfl
      | true => exact absurd (undoes_iff.1 hu) (h3 _ (by rw [List.getLast?_eq_getElem?, List.getElem?_eq_getElem (by omega)]))
/-- The three ways of one step. -/
theorem step_cases (s : List Prim) (p : Prim) : (idleP p = true ∧ tidyStep s p = s) ∨ (idleP p = false ∧ ∃ t q, s = t ++ [q] ∧ p = turnP q ∧ tidyStep s p = t) ∨
    (idleP p = false ∧ (∀ q, s.getLast? = some q → p ≠ turnP q) ∧ tidyStep s p = s ++ [p]) := by
  unfold tidyStep
  cases hi : idleP p with
  | true => exact .inl ⟨rfl, by simp⟩
  | false =>
    refine .inr ?_
    simp only [Bool.false_eq_true, if_false]
    cases hl : s.getLast? with
    | none => exact .inr ⟨by trivial, by simp, rfl⟩
    | some q =>
      simp only
      split
      · rename_i h
        obtain ⟨t, ht⟩ := List.getLast?_eq_some_iff.1 hl
        exact .inl ⟨by trivial, t, q, ht, primEq_iff.1 h, by rw [ht]; simp⟩
      · rename_i h
        exact .inr ⟨by trivial, fun q' hq' e => h (primEq_iff.2 (by simp only [Option.some.injEq] at hq'; rw [hq']; exact e)), rfl⟩
theorem step_push {s : List Prim} {p : Prim} (h1 : idleP p = false) (h2 : ∀ q, s.getLast? = some q → p ≠ turnP q) : tidyStep s p = s ++ [p] := by
  rcases step_cases s p with ⟨h, _⟩ | ⟨_, t, q, rfl, h, _⟩ | ⟨_, _, h⟩
  · rw [h] at h1; simp at h1
  · exact absurd h (h2 q (by simp))
  · exact h
theorem step_pop {t : List Prim} {p : Prim} (h1 : idleP p = false) : tidyStep (t ++ [p]) (turnP p) = t := by
  rcases step_cases (t ++ [p]) (turnP p) with ⟨h, _⟩ | ⟨_, t', q, h0, h, h2⟩ | ⟨_, h, _⟩
  · rw [idle_turn, h1] at h; simp at h
  · have := List.append_inj' h0 rfl
    rw [h2]; exact this.1.symm
  · exact absurd rfl (h p (by simp))
theorem step_chain {s : List Prim} (h : Chain s) (p : Prim) : Chain (tidyStep s p) := by
  rcases step_cases s p with ⟨_, e⟩ | ⟨_, t, q, rfl, _, e⟩ | ⟨h1, h2, e⟩
  · rw [e]; exact h
  · rw [e]; exact (chain_snoc.1 h).1
  · rw [e]; exact chain_snoc.2 ⟨h, h1, h2⟩
theorem tidyF_chain {s : List Prim} (h : Chain s) (l : List Prim) : Chain (tidyF s l) := by
  induction l generalizing s with
  | nil => exact h
  | cons p l ih => exact ih (step_chain h p)
/-- A change, and what undoes it. -/
theorem step_back {s : List Prim} (h : Chain s) (p : Prim) : tidyStep (tidyStep s p) (turnP p) = s := by
  rcases step_cases s p with ⟨h1, e⟩ | ⟨h1, t, q, rfl, rfl, e⟩ | ⟨h1, h2, e⟩
  · rw [e]
    unfold tidyStep
    rw [if_pos (by rw [idle_turn]; exact h1)]
  · rw [e, turnP_turnP]
    obtain ⟨_, g1, g2⟩ := chain_snoc.1 h
    exact step_push g1 g2
  · rw [e]
    exact step_pop h1
abbrev turnL (l : List Prim) : List Prim := l.reverse.map turnP
theorem tidyF_back (l : List Prim) {s : List Prim} (h : Chain s) : tidyF s (l ++ turnL l) = s := by
  induction l generalizing s with
  | nil => rfl
  | cons p l ih =>
    have e : (p :: l) ++ turnL (p :: l) = [p] ++ ((l ++ turnL l) ++ [turnP p]) := by simp [turnL]
    rw [e, tidyF_app, tidyF_app, ih (tidyF_chain h [p])]
    exact step_back h p
theorem chain_pre {u t : List Prim} : Chain (u ++ t) → Chain u := by
  induction t using snoc_ind with
  | h0 => simp
  | h1 t x ih => intro h; rw [← List.append_assoc] at h; exact ih (chain_snoc.1 h).1
theorem tidyF_tight {s : List Prim} : ∀ {t : List Prim}, Chain (s ++ t) → tidyF s t = s ++ t := fun {t} => by
  induction t generalizing s with
  | nil => intro _; simp [tidyF]
  | cons p t ih =>
    intro h
    have h' : Chain ((s ++ [p]) ++ t) := by simpa using h
    have hs : Chain (s ++ [p]) := chain_pre h'
    obtain ⟨_, g1, g2⟩ := chain_snoc.1 hs
    show tidyF (tidyStep s p) t = _
    rw [step_push g1 g2, ih h']
    simp
theorem tidyL_tight {l : List Prim} (h : Chain l) : tidyL l = l := tidyF_tight (s := []) h
theorem tidyL_chain (l : List Prim) : Chain (tidyL l) := tidyF_chain chain_nil l
theorem tidyF_len (l s : List Prim) : (tidyF s l).length ≤ s.length + l.length := by
  induction l generalizing s with
  | nil => simp [tidyF]
  | cons p l ih =>
    have h1 := ih (tidyStep s p)
    have h2 := tidyStep_len s p
    simp only [List.length_cons]
    show (tidyF (tidyStep s p) l).length ≤ _
    omega
theorem tidyF_full : ∀ {l s : List Prim}, (tidyF s l).length = s.length + l.length → tidyF s l = s ++ l := fun {l} => by
  induction l with
  | nil => intro s _; simp [tidyF]
  | cons p l ih =>
    intro s h
    have h1 : (tidyF (tidyStep s p) l).length = s.length + (l.length + 1) := h
    have h2 := tidyF_len l (tidyStep s p)
    show tidyF (tidyStep s p) l = _
    have hp : tidyStep s p = s ++ [p] := by
      rcases step_cases s p with ⟨_, e⟩ | ⟨_, t, q, rfl, _, e⟩ | ⟨_, _, e⟩
      · rw [e] at h2 h1; omega
      · rw [e] at h2 h1; simp only [List.length_append, List.length_cons, List.length_nil] at h1; omega
      · exact e
    rw [hp] at h1 ⊢
    rw [ih (by rw [h1]; simp; omega)]
    simp
/-- **Tight is what tidying leaves as it is.** -/
theorem tight_len (l : List Prim) : decide ((tidyL l).length = l.length) = tightL l := by
  rw [Bool.eq_iff_iff, decide_eq_true_eq]
  constructor
  · intro h
    have e : tidyL l = l := tidyF_full (s := []) (by show (tidyL l).length = _; simpa using h)
    have := tidyL_chain l
    rwa [e] at this
  · intro h
    rw [tidyL_tight h]
theorem tidy_none (l : List Prim) : tidyL (l ++ turnL l) = [] := tidyF_back l chain_nil
theorem tidyF_fold (b : List Prim) {s : List Prim} (h : Chain s) : tidyF s (tidyL b) = tidyF s b := by
  induction b using snoc_ind with
  | h0 => rfl
  | h1 b p ih =>
    have e1 : tidyL (b ++ [p]) = tidyStep (tidyL b) p := by simp [tidyL]
    have e2 : tidyF s (b ++ [p]) = tidyStep (tidyF s b) p := by simp [tidyF]
    rw [e1, e2, ← ih]
    rcases step_cases (tidyL b) p with ⟨g1, e⟩ | ⟨g1, t, q, ht, rfl, e⟩ | ⟨g1, g2, e⟩
    · rw [e]
      unfold tidyStep
      rw [if_pos g1]
    · rw [e, ht, tidyF_app]
      exact (step_back (tidyF_chain h t) q).symm
    · rw [e, tidyF_app]
      rfl
theorem tidy_parts (a b : List Prim) : tidyL (a ++ b) = tidyL (tidyL a ++ tidyL b) := by
  show tidyF [] _ = tidyF [] _
  rw [tidyF_app, tidyF_app, tidyF_fold a chain_nil, tidyF_fold b (tidyF_chain chain_nil _)]
theorem few_len {l : List Prim} {n : Int} (h : few l n = true) : (l.length : Int) ≤ n := by
  unfold few at h
  simp only [Bool.and_eq_true, decide_eq_true_eq] at h
  exact h.1
theorem tidy_idle (a b : List Prim) {p : Prim} (h : idleP p = true) : tidyL (a ++ p :: b) = tidyL (a ++ b) := by
  show tidyF [] _ = tidyF [] _
  rw [tidyF_app, tidyF_app]
  show tidyF (tidyStep (tidyF [] a) p) b = _
  have : tidyStep (tidyF [] a) p = tidyF [] a := by
    unfold tidyStep
    rw [if_pos h]
  rw [this]
end Go.Qm

/- The program's data, as it comes in. -/
namespace Go.Qm
open Go.RowKit Go.Vam
set_option linter.unusedSimpArgs false
set_option linter.unusedVariables false

structure File where
  name : Str
  lines : List Str
structure Id where
  who : Int
  no : Int
structure Named where
  id : Id
  deps : List Id
  text : Str
  l : List Prim
abbrev fileC (f : File) : List C := [.sc (.string f.name), .sl (strsC f.lines)]
abbrev treeC (t : List File) : List (List C) := t.map fileC
abbrev idC (i : Id) : List C := [.sc (.int .i64 i.who), .sc (.int .i64 i.no)]
abbrev idsC (l : List Id) : List (List C) := l.map idC
abbrev namedC (p : Named) : List C := [.sc (.int .i64 p.id.who), .sc (.int .i64 p.id.no), .sl (idsC p.deps), .sc (.string p.text), .sl (primsC p.l)]
abbrev namedsC (l : List Named) : List (List C) := l.map namedC
abbrev fileA (f : File) : AV := .agg (fileC f)
abbrev treeA (t : List File) : AV := .c (.sl (treeC t))
abbrev idA (i : Id) : AV := .agg (idC i)
abbrev idsA (l : List Id) : AV := .c (.sl (idsC l))
abbrev namedA (p : Named) : AV := .agg (namedC p)
abbrev namedsA (l : List Named) : AV := .c (.sl (namedsC l))

abbrev Big : Nat := 140737488351232
abbrev strZ (s : Str) : Prop := s.size ≤ Big
abbrev strsZ (l : List Str) : Prop := ∀ s ∈ l, strZ s
structure fileB (f : File) : Prop where
  len : f.lines.length * 16 ≤ Big
  name : strZ f.name
  all : strsZ f.lines
abbrev treeB (t : List File) : Prop := t.length * 40 ≤ Big ∧ ∀ f ∈ t, fileB f
abbrev primsB (l : List Prim) : Prop := l.length * 96 ≤ Big ∧ ∀ p ∈ l, primB p
abbrev namedB (p : Named) : Prop := p.deps.length * 16 ≤ Big ∧ primsB p.l
abbrev namedsB (l : List Named) : Prop := l.length * 80 ≤ Big ∧ ∀ p ∈ l, namedB p
def i64 (n : Int) : Prop := -9223372036854775808 ≤ n ∧ n ≤ 9223372036854775807
structure hunkR (h : Hunk) : Prop where
  at_ : i64 h.at_
  old : strsZ h.old
  new : strsZ h.new
structure primR (p : Prim) : Prop where
  kind : i64 p.kind
  name : strZ p.name
  to : strZ p.to
  h : hunkR p.h
def idR (i : Id) : Prop := i64 i.who ∧ i64 i.no
def namedR (p : Named) : Prop := idR p.id ∧ (∀ i ∈ p.deps, idR i) ∧ ∀ q ∈ p.l, primR q

theorem i64_wf {n : Int} (h : (Lit.int .i64 n).wf = true) : i64 n := by
  simp [Lit.wf, IntKind.min, IntKind.max, IntKind.signed, IntKind.bits] at h
  unfold i64
  omega
abbrev strsSh : Sh := .sl 16 [.str]
abbrev primSh : List Sh := [.int .i64, .str, .str, .int .i64, strsSh, strsSh]
abbrev fileSh : List Sh := [.str, strsSh]
abbrev idSh : List Sh := [.int .i64, .int .i64]
abbrev namedSh : List Sh := [.int .i64, .int .i64, .sl 16 idSh, .str, .sl 96 primSh]
theorem rows_of {α : Type} {f : α → List C} {G : List C → Prop} {K : α → Prop} (h : ∀ row, G row → ∃ x, row = f x ∧ K x) : ∀ {rows : List (List C)}, (∀ row, row ∈ rows → G row) → ∃ xs : List α, rows = xs.map f ∧ ∀ x ∈ xs, K x
  | [], _ => ⟨[], rfl, by simp⟩
  | row :: rows, hr => by
    obtain ⟨x, rfl, hk⟩ := h row (hr row (by simp))
    obtain ⟨xs, rfl, hks⟩ := rows_of h (rows := rows) fun r h => hr r (by simp [h])
    exact ⟨x :: xs, rfl, by simpa using ⟨hk, hks⟩⟩
theorem fit_str {row : List C} (h : FitL [.str] row) : ∃ s : Str, row = strC s ∧ strZ s := by
  simp only [FitL, Fit] at h
  obtain ⟨c, r, rfl, ⟨s, rfl, hs⟩, rfl⟩ := h
  exact ⟨s, rfl, hs⟩
theorem fit_strs {c : C} (h : Fit strsSh c) : ∃ l : List Str, c = .sl (strsC l) ∧ l.length * 16 ≤ Big ∧ strsZ l := by
  simp only [Fit] at h
  obtain ⟨rows, rfl, hl, hr⟩ := h
  obtain ⟨xs, rfl, hz⟩ := rows_of (f := strC) (K := strZ) (fun row h => fit_str h) hr
  exact ⟨xs, rfl, by simpa using hl, hz⟩
theorem fit_prim {row : List C} (h : FitL primSh row) : ∃ p : Prim, row = primC p ∧ primB p ∧ primR p := by
  unfold primSh at h
  simp only [FitL] at h
  obtain ⟨c1, r1, rfl, ⟨k, rfl, hk⟩, c2, r2, rfl, ⟨s, rfl, z1⟩, c3, r3, rfl, ⟨s', rfl, z2⟩, c4, r4, rfl, ⟨n, rfl, hn⟩, c5, r5, rfl, h5, c6, r6, rfl, h6, rfl⟩ := h
  obtain ⟨l5, rfl, b5, z5⟩ := fit_strs h5
  obtain ⟨l6, rfl, b6, z6⟩ := fit_strs h6
  exact ⟨⟨k, s, s', ⟨n, l5, l6⟩⟩, rfl, ⟨by simp only [Big] at b5; simp only; omega, by simp only [Big] at b6; simp only; omega⟩, ⟨i64_wf hk, z1, z2, ⟨i64_wf hn, z5, z6⟩⟩⟩
theorem fit_file {row : List C} (h : FitL fileSh row) : ∃ f : File, row = fileC f ∧ fileB f := by
  unfold fileSh at h
  simp only [FitL] at h
  obtain ⟨c1, r1, rfl, ⟨s, rfl, z1⟩, c5, r5, rfl, h5, rfl⟩ := h
  obtain ⟨l5, rfl, b5, z5⟩ := fit_strs h5
  exact ⟨⟨s, l5⟩, rfl, ⟨b5, z1, z5⟩⟩
theorem fit_id {row : List C} (h : FitL idSh row) : ∃ i : Id, row = idC i ∧ idR i := by
  simp only [idSh, FitL, Fit] at h
  obtain ⟨c1, r1, rfl, ⟨a, rfl, ha⟩, c2, r2, rfl, ⟨b, rfl, hb⟩, rfl⟩ := h
  exact ⟨⟨a, b⟩, rfl, i64_wf ha, i64_wf hb⟩
theorem fit_sl {α : Type} {f : α → List C} {K : α → Prop} {by' : Nat} {sh : List Sh} (h : ∀ row, FitL sh row → ∃ x, row = f x ∧ K x) {c : C} (hc : Fit (.sl by' sh) c) : ∃ xs : List α, c = .sl (xs.map f) ∧ xs.length * by' ≤ Big ∧ ∀ x ∈ xs, K x := by
  simp only [Fit] at hc
  obtain ⟨rows, rfl, hl, hr⟩ := hc
  obtain ⟨xs, rfl, hk⟩ := rows_of h hr
  exact ⟨xs, rfl, by simpa using hl, hk⟩
theorem fit_named {row : List C} (h : FitL namedSh row) : ∃ p : Named, row = namedC p ∧ namedB p ∧ namedR p := by
  unfold namedSh at h
  simp only [FitL] at h
  obtain ⟨c1, r1, rfl, ⟨a, rfl, ha⟩, c2, r2, rfl, ⟨b, rfl, hb⟩, c3, r3, rfl, h3, c4, r4, rfl, ⟨s, rfl, _⟩, c5, r5, rfl, h5, rfl⟩ := h
  obtain ⟨ds, rfl, bd, rd⟩ := fit_sl (f := idC) (K := idR) (fun _ h => fit_id h) h3
  obtain ⟨ps, rfl, bp, rp⟩ := fit_sl (f := primC) (K := fun p => primB p ∧ primR p) (fun _ h => fit_prim h) h5
  exact ⟨⟨⟨a, b⟩, ds, s, ps⟩, rfl, ⟨bd, bp, fun p hp => (rp p hp).1⟩, ⟨i64_wf ha, i64_wf hb⟩, rd, fun p hp => (rp p hp).2⟩

/-! ### Arguments -/
section
variable {P : Program} {n : Nat} {t : TypeId} {ts : List TypeId} {l : List AV}
theorem arg_one {s : Sh} (hs : shOf P n t = some [s]) (hd : (P.underlying t).map descA = some false) (h : ArgsFit P n (t :: ts) l) : ∃ c l', l = .c c :: l' ∧ Fit s c ∧ ArgsFit P n ts l' := by
  obtain ⟨shs, row, l', h1, h2, rfl, h3⟩ := h
  rw [hs] at h1
  simp only [Option.some.injEq] at h1
  subst h1
  simp only [FitL] at h2
  obtain ⟨c, _, rfl, hf, rfl⟩ := h2
  refine ⟨c, l', ?_, hf, h3⟩
  unfold avOf
  rw [hd]
  rfl
theorem arg_agg {sh : List Sh} (hs : shOf P n t = some sh) (hd : (P.underlying t).map descA = some true) (h : ArgsFit P n (t :: ts) l) : ∃ row l', l = .agg row :: l' ∧ FitL sh row ∧ ArgsFit P n ts l' := by
  obtain ⟨shs, row, l', h1, h2, rfl, h3⟩ := h
  rw [hs] at h1
  simp only [Option.some.injEq] at h1
  subst h1
  refine ⟨row, l', ?_, h2, h3⟩
  unfold avOf
  rw [hd]
theorem arg_int (hs : shOf P n t = some [.int .i64]) (hd : (P.underlying t).map descA = some false) (h : ArgsFit P n (t :: ts) l) : ∃ k l', l = intA k :: l' ∧ i64 k ∧ ArgsFit P n ts l' := by
  obtain ⟨c, l', rfl, hf, h'⟩ := arg_one hs hd h
  obtain ⟨k, rfl, hk⟩ := hf
  exact ⟨k, l', rfl, i64_wf hk, h'⟩
theorem arg_str (hs : shOf P n t = some [.str]) (hd : (P.underlying t).map descA = some false) (h : ArgsFit P n (t :: ts) l) : ∃ s l', l = strA s :: l' ∧ s.size ≤ Big ∧ ArgsFit P n ts l' := by
  obtain ⟨c, l', rfl, hf, h'⟩ := arg_one hs hd h
  obtain ⟨k, rfl, hk⟩ := hf
  exact ⟨k, l', rfl, hk, h'⟩
theorem arg_prim (hs : shOf P n t = some primSh) (hd : (P.underlying t).map descA = some true) (h : ArgsFit P n (t :: ts) l) : ∃ p l', l = primA p :: l' ∧ primB p ∧ primR p ∧ ArgsFit P n ts l' := by
  obtain ⟨row, l', rfl, hf, h'⟩ := arg_agg hs hd h
  obtain ⟨p, rfl, h1, h2⟩ := fit_prim hf
  exact ⟨p, l', rfl, h1, h2, h'⟩
theorem arg_prims (hs : shOf P n t = some [.sl 96 primSh]) (hd : (P.underlying t).map descA = some false) (h : ArgsFit P n (t :: ts) l) : ∃ xs l', l = primsA xs :: l' ∧ primsB xs ∧ (∀ p ∈ xs, primR p) ∧ ArgsFit P n ts l' := by
  obtain ⟨c, l', rfl, hf, h'⟩ := arg_one hs hd h
  obtain ⟨xs, rfl, h1, h2⟩ := fit_sl (f := primC) (K := fun p => primB p ∧ primR p) (fun _ h => fit_prim h) hf
  exact ⟨xs, l', rfl, ⟨h1, fun p hp => (h2 p hp).1⟩, fun p hp => (h2 p hp).2, h'⟩
theorem arg_tree (hs : shOf P n t = some [.sl 40 fileSh]) (hd : (P.underlying t).map descA = some false) (h : ArgsFit P n (t :: ts) l) : ∃ xs l', l = treeA xs :: l' ∧ treeB xs ∧ ArgsFit P n ts l' := by
  obtain ⟨c, l', rfl, hf, h'⟩ := arg_one hs hd h
  obtain ⟨xs, rfl, h1, h2⟩ := fit_sl (f := fileC) (K := fileB) (fun _ h => fit_file h) hf
  exact ⟨xs, l', rfl, ⟨h1, h2⟩, h'⟩
theorem arg_id (hs : shOf P n t = some idSh) (hd : (P.underlying t).map descA = some true) (h : ArgsFit P n (t :: ts) l) : ∃ p l', l = idA p :: l' ∧ idR p ∧ ArgsFit P n ts l' := by
  obtain ⟨row, l', rfl, hf, h'⟩ := arg_agg hs hd h
  obtain ⟨p, rfl, h1⟩ := fit_id hf
  exact ⟨p, l', rfl, h1, h'⟩
theorem arg_ids (hs : shOf P n t = some [.sl 16 idSh]) (hd : (P.underlying t).map descA = some false) (h : ArgsFit P n (t :: ts) l) : ∃ xs l', l = idsA xs :: l' ∧ xs.length * 16 ≤ Big ∧ (∀ p ∈ xs, idR p) ∧ ArgsFit P n ts l' := by
  obtain ⟨c, l', rfl, hf, h'⟩ := arg_one hs hd h
  obtain ⟨xs, rfl, h1, h2⟩ := fit_sl (f := idC) (K := idR) (fun _ h => fit_id h) hf
  exact ⟨xs, l', rfl, h1, h2, h'⟩
theorem arg_named (hs : shOf P n t = some namedSh) (hd : (P.underlying t).map descA = some true) (h : ArgsFit P n (t :: ts) l) : ∃ p l', l = namedA p :: l' ∧ namedB p ∧ namedR p ∧ ArgsFit P n ts l' := by
  obtain ⟨row, l', rfl, hf, h'⟩ := arg_agg hs hd h
  obtain ⟨p, rfl, h1, h2⟩ := fit_named hf
  exact ⟨p, l', rfl, h1, h2, h'⟩
theorem arg_nameds (hs : shOf P n t = some [.sl 80 namedSh]) (hd : (P.underlying t).map descA = some false) (h : ArgsFit P n (t :: ts) l) : ∃ xs l', l = namedsA xs :: l' ∧ namedsB xs ∧ (∀ p ∈ xs, namedR p) ∧ ArgsFit P n ts l' := by
  obtain ⟨c, l', rfl, hf, h'⟩ := arg_one hs hd h
  obtain ⟨xs, rfl, h1, h2⟩ := fit_sl (f := namedC) (K := fun p => namedB p ∧ namedR p) (fun _ h => fit_named h) hf
  exact ⟨xs, l', rfl, ⟨h1, fun p hp => (h2 p hp).1⟩, fun p hp => (h2 p hp).2, h'⟩
theorem arg_end (h : ArgsFit P n [] l) : l = [] := h
end
end Go.Qm

/- Lines, names, hunks, trees, changes: what the functions upon them tell. -/
namespace Go.Qm
open Go.RowKit Go.Vam
set_option linter.unusedSimpArgs false
set_option linter.unusedVariables false

/-! ### Bytes -/
def bytesL (s : Str) : List Int := (List.range s.size).map fun i => byteAt s i
theorem bytesL_len (s : Str) : (bytesL s).length = s.size := by simp [bytesL]
theorem bytesL_get {s : Str} {i : Nat} (h : i < (bytesL s).length) : (bytesL s)[i] = byteAt s i := by simp [bytesL]
theorem bytesL_data (s : Str) : bytesL s = s.data.toList.map fun b => (b.toNat : Int) := by
  refine List.ext_getElem (by simp [bytesL]) fun i h1 h2 => ?_
  rw [bytesL_get]
  have h : i < s.size := by rw [bytesL_len] at h1; exact h1
  simp only [byteAt, h, dif_pos, List.getElem_map, Array.getElem_toList]
  rfl
def noFeed (s : Str) : Bool := (bytesL s).all fun c => !(c == 10)
theorem index_lt (l : List UInt8) : decide (Lib.indexByte l 10 < 0) = (l.map fun b => (b.toNat : Int)).all fun c => !(c == 10) := by
  induction l with
  | nil => rfl
  | cons b l ih =>
    have hge := Lib.indexByte_ge l 10
    simp only [Lib.indexByte, List.map_cons, List.all_cons]
    by_cases hb : b = 10
    · subst hb; simp
    · have h1 : (b == 10) = false := by simpa using hb
      have h2 : ((b.toNat : Int) == 10) = false := by
        rw [beq_eq_false_iff_ne]
        intro h
        apply hb
        apply UInt8.toNat.inj
        show b.toNat = 10
        omega
      simp only [h1, Bool.false_eq_true, if_false, h2, Bool.not_false, Bool.true_and]
      rw [← ih]
      by_cases h3 : Lib.indexByte l 10 = -1
      · simp [h3]
      · have h4 : (Lib.indexByte l 10 == -1) = false := by simpa using h3
        rw [h4]
        simp only [Bool.false_eq_true, if_false]
        rw [decide_eq_decide]
        omega
theorem index_noFeed (s : Str) : decide (Lib.indexByte s.data.toList 10 < 0) = noFeed s := by rw [index_lt, noFeed, bytesL_data]
def lineOk (s : Str) : Bool := decide ((s.size : Int) ≤ 80) && noFeed s
def linesOk (l : List Str) : Bool := decide ((l.length : Int) ≤ 200) && l.all lineOk
def signB (c : Int) : Bool := (decide (c ≥ 97) && decide (c ≤ 122)) || ((decide (c ≥ 48) && decide (c ≤ 57)) || c == 46)
def nameOk (s : Str) : Bool := (bytesL s).all signB && decide (1 ≤ s.size) && decide ((s.size : Int) ≤ 16)
theorem size_empty (s : Str) : (s = ⟨#[]⟩) ↔ s.size = 0 := by
  obtain ⟨a⟩ := s
  constructor
  · intro h; rw [h]; rfl
  · intro h
    have : a.size = 0 := h
    have ha : a = #[] := Array.eq_empty_of_size_eq_zero this
    rw [ha]
def hunkOk (h : Hunk) : Bool := decide (0 ≤ h.at_) && decide (h.at_ ≤ 1048576) && linesOk h.old && linesOk h.new

/-! ### The first of a list that is so -/
def idxI {α : Type} (f : α → Bool) (l : List α) : Int := if l.any f = true then (l.findIdx f : Int) else -1
theorem idxI_nn {α : Type} (f : α → Bool) (l : List α) : decide (idxI f l ≥ 0) = l.any f := by
  unfold idxI
  cases l.any f <;> simp
theorem findIdx_at {α : Type} {f : α → Bool} {l : List α} {i : Nat} (h : i < l.length) (hall : (l.take i).any f = false) (hf : f l[i] = true) : l.findIdx f = i ∧ l.any f = true := by
  have hany : l.any f = true := List.any_eq_true.2 ⟨l[i], List.getElem_mem h, hf⟩
  refine ⟨?_, hany⟩
  rw [List.findIdx_eq h]
  refine ⟨hf, fun j hj => ?_⟩
  rw [List.any_eq_false] at hall
  have := hall l[j] (List.mem_take_iff_getElem.2 ⟨j, by omega, rfl⟩)
  simpa using this
theorem idxI_at {α : Type} {f : α → Bool} {l : List α} {i : Nat} (h : i < l.length) (hall : (l.take i).any f = false) (hf : f l[i] = true) : idxI f l = i := by
  obtain ⟨h1, h2⟩ := findIdx_at h hall hf
  unfold idxI
  rw [h1, h2]; rfl
theorem any_take {α : Type} {f : α → Bool} {l : List α} {i : Nat} (h : i < l.length) : (l.take (i + 1)).any f = ((l.take i).any f || f l[i]) := by
  rw [List.take_add_one, List.any_append, List.getElem?_eq_getElem h]; simp
theorem idxI_none {α : Type} {f : α → Bool} {l : List α} {i : Nat} (hi : i ≤ l.length) (hn : ¬ i < l.length) (h : (l.take i).any f = false) : idxI f l = -1 := by
  have : i = l.length := by omega
  subst this
  rw [List.take_length] at h
  unfold idxI
  rw [h]; rfl
theorem any_not {α : Type} (f : α → Bool) (l : List α) : (!l.any fun x => !f x) = l.all f := by
  induction l with
  | nil => rfl
  | cons x l ih => simp only [List.any_cons, List.all_cons, Bool.not_or, Bool.not_not, ih]
end Go.Qm

/- Trees. -/
namespace Go.Qm
open Go.RowKit Go.Vam
set_option linter.unusedSimpArgs false
set_option linter.unusedVariables false

def strLe (a b : Str) : Bool := Op.bytesLess a.toList b.toList || a == b
def isN (n : Str) (f : File) : Bool := decide (f.name = n)
def gtN (n : Str) (f : File) : Bool := !strLe f.name n
def treeGet (t : List File) (n : Str) : List Str × Bool := match t.find? (isN n) with
  | some f => (f.lines, true)
  | none => ([], false)
def treePut (t : List File) (n : Str) (l : List Str) : List File :=
  if t.any (isN n) = true then t.set (t.findIdx (isN n)) ⟨n, l⟩ else t.take (t.findIdx (gtN n)) ++ [⟨n, l⟩] ++ t.drop (t.findIdx (gtN n))
def treeDel (t : List File) (n : Str) : List File := t.take (t.findIdx (isN n)) ++ t.drop (t.findIdx (isN n) + 1)
def fileEq (a b : File) : Bool := decide (a.name = b.name) && strsEq a.lines b.lines
def treeEq (a b : List File) : Bool := all2 fileEq a b
def fileMay (t : List File) (i : Nat) (f : File) : Bool := nameOk f.name && linesOk f.lines && !(decide (0 < i) && strLe f.name ((t[i - 1]?).map (·.name)|>.getD ⟨#[]⟩))
def treeMay (t : List File) : Bool := (t.mapIdx (fileMay t)).all id && decide ((t.length : Int) ≤ 30)
def treeLight (t : List File) : Bool := decide ((t.length : Int) ≤ 40) && t.all fun f => lightS f.lines 300 && decide ((f.name.size : Int) ≤ 100)

theorem rowLen_tree (t : List File) : rowLen 2 (treeC t) := by
  intro row h
  obtain ⟨s, _, rfl⟩ := List.mem_map.1 h
  rfl
theorem findIdx_lt {t : List File} {f : File → Bool} : (decide ((t.findIdx f : Int) < t.length)) = t.any f := by
  rw [Bool.eq_iff_iff, decide_eq_true_eq, List.any_eq_true]
  constructor
  · intro h
    have h' : t.findIdx f < t.length := by omega
    exact ⟨_, List.getElem_mem h', List.findIdx_getElem⟩
  · rintro ⟨x, hx, hf⟩
    have := List.findIdx_lt_length_of_exists ⟨x, hx, hf⟩
    omega
theorem treeGet_at {t : List File} {n : Str} (h : t.findIdx (isN n) < t.length) : treeGet t n = (t[t.findIdx (isN n)].lines, true) := by
  unfold treeGet
  have : t.find? (isN n) = some t[t.findIdx (isN n)] := by
    rw [List.find?_eq_some_iff_getElem]
    refine ⟨List.findIdx_getElem (w := h), _, h, rfl, fun j hj => ?_⟩
    have := List.not_of_lt_findIdx hj
    simpa using this
  rw [this]
theorem treeGet_none {t : List File} {n : Str} (h : t.any (isN n) = false) : treeGet t n = ([], false) := by
  unfold treeGet
  rw [List.any_eq_false] at h
  rw [List.find?_eq_none.2 (fun x hx => h x hx)]
theorem idxI_findIdx {t : List File} {f : File → Bool} : (if decide (idxI f t ≥ 0) = true then idxI f t else (t.length : Int)) = t.findIdx f := by
  rw [idxI_nn]
  unfold idxI
  cases h : t.any f with
  | true => rfl
  | false =>
    rw [List.any_eq_false] at h
    rw [List.findIdx_eq_length.2 (fun x hx => by simpa using h x hx)]
    rfl
end Go.Qm

/- Trees, kept and changed: hunks and changes upon them. -/
namespace Go.Qm
open Go.RowKit Go.Vam
set_option linter.unusedSimpArgs false
set_option linter.unusedVariables false

/-! ### Put, file by file -/
def putI (t : List File) (n : Str) (l : List Str) (i : Nat) : List File :=
  if (t.take i).any (gtN n) = true then t.take (t.findIdx (gtN n)) ++ [⟨n, l⟩] ++ (t.take i).drop (t.findIdx (gtN n)) else t.take i
theorem findIdx_take {α : Type} {f : α → Bool} {l : List α} {i : Nat} (h : (l.take i).any f = true) : l.findIdx f < i := by
  obtain ⟨x, hx, hf⟩ := List.any_eq_true.1 h
  obtain ⟨j, hj, rfl⟩ := List.mem_take_iff_getElem.1 hx
  have hjl : j < l.length := by omega
  have : l.findIdx f ≤ j := by
    rw [← Nat.not_lt]
    intro h2
    have := List.not_of_lt_findIdx h2
    rw [this] at hf
    simp at hf
  omega
theorem drop_take1 {α : Type} {t : List α} {i : Nat} (h : i < t.length) : (t.take (i + 1)).drop i = [t[i]] := by
  rw [List.drop_take, show i + 1 - i = 1 by omega, List.drop_eq_getElem_cons h]
  rfl
theorem putI_gt {t : List File} {n : Str} {l : List Str} {i : Nat} (h : i < t.length) (ha : (t.take i).any (gtN n) = false) (hg : gtN n t[i] = true) : putI t n l (i + 1) = putI t n l i ++ [⟨n, l⟩] ++ [t[i]] := by
  have h1 := (findIdx_at h ha hg).1
  unfold putI
  rw [any_take h, ha, hg, h1, if_pos (by rfl), if_neg (by simp), drop_take1 h]
theorem putI_le {t : List File} {n : Str} {l : List Str} {i : Nat} (h : i < t.length) (ha : (t.take i).any (gtN n) = false) (hg : gtN n t[i] = false) : putI t n l (i + 1) = putI t n l i ++ [t[i]] := by
  unfold putI
  rw [any_take h, ha, hg, if_neg (by simp), if_neg (by simp), List.take_add_one, List.getElem?_eq_getElem h]
  rfl
theorem putI_on {t : List File} {n : Str} {l : List Str} {i : Nat} (h : i < t.length) (ha : (t.take i).any (gtN n) = true) : putI t n l (i + 1) = putI t n l i ++ [t[i]] := by
  have := findIdx_take ha
  unfold putI
  rw [any_take h, ha, if_pos (by simp), if_pos rfl, List.take_add_one, List.getElem?_eq_getElem h, List.drop_append_of_le_length (by simp; omega)]
  simp
theorem putI_end {t : List File} {n : Str} {l : List Str} (hn : t.any (isN n) = false) (h : t.any (gtN n) = true) : putI t n l t.length = treePut t n l := by
  unfold putI treePut
  rw [List.take_length, h, if_pos rfl, hn, if_neg (by simp)]
theorem putI_last {t : List File} {n : Str} {l : List Str} (hn : t.any (isN n) = false) (h : t.any (gtN n) = false) : putI t n l t.length ++ [⟨n, l⟩] = treePut t n l := by
  have h1 : t.findIdx (gtN n) = t.length := by
    rw [List.any_eq_false] at h
    exact List.findIdx_eq_length.2 fun x hx => by simpa using h x hx
  unfold putI treePut
  rw [List.take_length, h, if_neg (by simp), hn, if_neg (by simp), h1]
  simp
theorem del_step {t : List File} {k : Nat} {i : Nat} (h : i < t.length) : (t.take (i + 1)).eraseIdx k = (t.take i).eraseIdx k ++ if i = k then [] else [t[i]] := by
  rw [List.take_add_one, List.getElem?_eq_getElem h]
  by_cases hk : i < k
  · rw [if_neg (by omega), List.eraseIdx_of_length_le (by simp; omega), List.eraseIdx_of_length_le (by simp; omega)]
    rfl
  · by_cases he : i = k
    · subst he
      have hlen : (t.take i).length = i := by simp; omega
      rw [if_pos rfl, List.eraseIdx_append_of_length_le (by omega), hlen, Nat.sub_self]
      rw [List.eraseIdx_of_length_le (l := t.take i) (Nat.le_of_eq hlen)]
      rfl
    · rw [if_neg he, List.eraseIdx_append_of_lt_length (by simp; omega)]
      rfl
theorem treeDel_erase (t : List File) (n : Str) : treeDel t n = t.eraseIdx (t.findIdx (isN n)) := by rw [treeDel, List.eraseIdx_eq_take_drop_succ]

theorem putI_zero (t : List File) (n : Str) (l : List Str) : putI t n l 0 = [] := by simp [putI]
theorem putI_len (t : List File) (n : Str) (l : List Str) (i : Nat) (h : i ≤ t.length) : (putI t n l i).length = if (t.take i).any (gtN n) = true then i + 1 else i := by
  unfold putI
  split
  · rename_i ha
    have := findIdx_take ha
    simp
    omega
  · simp; omega

/-! ### Lines -/
def atL (a : List Str) (k : Int) (b : List Str) : Bool := decide (0 ≤ k) && (decide (k ≤ a.length) && (decide ((b.length : Int) ≤ a.length - k) && strsEq ((a.drop k.toNat).take b.length) b))
def swapL (a : List Str) (k : Int) (b c : List Str) : List Str × Bool := if atL a k b = true then (a.take k.toNat ++ c ++ a.drop (k.toNat + b.length), true) else ([], false)
def applyH (l : List Str) (h : Hunk) : List Str × Int := if hunkOk h = true then if atL l h.at_ h.old = true then (l.take h.at_.toNat ++ h.new ++ l.drop (h.at_.toNat + h.old.length), 0) else ([], 5) else ([], 1)

theorem applyH_len (l : List Str) (h : Hunk) : (applyH l h).1.length ≤ l.length + 200 := by
  unfold applyH
  split
  · rename_i ho
    simp only [hunkOk, linesOk, Bool.and_eq_true, decide_eq_true_eq] at ho
    split
    · simp; omega
    · simp
  · simp

/-! ### Changes -/
def hunkNone (h : Hunk) : Bool := h.at_ == 0 && decide (h.old.length = 0) && decide (h.new.length = 0)
def singleP (p : Prim) : Bool := nameOk p.name && decide (p.to = ⟨#[]⟩)
def mayP (p : Prim) : Bool :=
  if p.kind = 0 ∨ p.kind = 1 then singleP p && hunkNone p.h
  else if p.kind = 2 then nameOk p.name && nameOk p.to && !decide (p.name = p.to) && hunkNone p.h
  else if p.kind = 3 then singleP p && hunkOk p.h
  else if p.kind = 4 then singleP p && hunkOk p.h && p.h.at_ == 0
  else false
def addT (p : Prim) (t : List File) : List File × Int := if (treeGet t p.name).2 = true then ([], 5) else (treePut t p.name [], 0)
def rmT (p : Prim) (t : List File) : List File × Int := if (treeGet t p.name).2 = true ∧ (treeGet t p.name).1.length = 0 then (treeDel t p.name, 0) else ([], 5)
def moveT (p : Prim) (t : List File) : List File × Int := if (treeGet t p.name).2 = true ∧ (treeGet t p.to).2 = false then (treePut (treeDel t p.name) p.to (treeGet t p.name).1, 0) else ([], 5)
def patchT (p : Prim) (t : List File) : List File × Int := if (treeGet t p.name).2 = true then
    if (applyH (treeGet t p.name).1 p.h).2 = 0 then (treePut t p.name (applyH (treeGet t p.name).1 p.h).1, 0) else ([], (applyH (treeGet t p.name).1 p.h).2)
  else ([], 5)
def setT (p : Prim) (t : List File) : List File × Int := if (treeGet t p.name).2 = true ∧ (treeGet t p.name).1 = p.h.old then (treePut t p.name p.h.new, 0) else ([], 5)
def applyP (t : List File) (p : Prim) : List File × Int :=
  if mayP p = true then if p.kind = 0 then addT p t else if p.kind = 1 then rmT p t else if p.kind = 2 then moveT p t else if p.kind = 3 then patchT p t else setT p t
  else ([], 1)
end Go.Qm

/- Trees by their names: sorted lists of files and what they hold. -/
namespace Go.Qm
open Go.RowKit Go.Vam
set_option linter.unusedSimpArgs false
set_option linter.unusedVariables false

/-! ### Strings, one before the other -/
theorem toList_inj {a b : Str} (h : a.toList = b.toList) : a = b := by
  have h1 : (a.toList == b.toList) = true := by rw [h]; simp
  have h2 : (a == b) = true := by rw [beq_toListBytes]; exact h1
  rw [str_beq, decide_eq_true_eq] at h2
  exact h2
theorem bl_irr : ∀ l : List UInt8, Op.bytesLess l l = false
  | [] => rfl
  | a :: l => by simp [Op.bytesLess, bl_irr l]
theorem bl_trans : ∀ {a b c : List UInt8}, Op.bytesLess a b = true → Op.bytesLess b c = true → Op.bytesLess a c = true
  | _, [], _, h, _ => by simp [Op.bytesLess] at h
  | _, _ :: _, [], _, h => by simp [Op.bytesLess] at h
  | [], _ :: _, _ :: _, _, _ => rfl
  | a :: x, b :: y, c :: z, h1, h2 => by
    simp only [Op.bytesLess, Bool.or_eq_true, Bool.and_eq_true, decide_eq_true_eq, beq_iff_eq] at h1 h2 ⊢
    rcases h1 with h1 | ⟨rfl, h1⟩
    · rcases h2 with h2 | ⟨rfl, h2⟩
      · exact .inl (UInt8.lt_trans h1 h2)
      · exact .inl h1
    · rcases h2 with h2 | ⟨rfl, h2⟩
      · exact .inl h2
      · exact .inr ⟨rfl, bl_trans h1 h2⟩
theorem bl_total : ∀ (a b : List UInt8), Op.bytesLess a b = true ∨ a = b ∨ Op.bytesLess b a = true
  | [], [] => .inr (.inl rfl)
  | [], _ :: _ => .inl rfl
  | _ :: _, [] => .inr (.inr rfl)
  | a :: x, b :: y => by
    simp only [Op.bytesLess, Bool.or_eq_true, Bool.and_eq_true, decide_eq_true_eq, beq_iff_eq, List.cons.injEq]
    rcases Nat.lt_trichotomy a.toNat b.toNat with h | h | h
    · exact .inl (.inl (UInt8.lt_iff_toNat_lt.2 h))
    · have hab : a = b := UInt8.toNat.inj h
      subst hab
      rcases bl_total x y with h | h | h
      · exact .inl (.inr ⟨rfl, h⟩)
      · exact .inr (.inl ⟨rfl, h⟩)
      · exact .inr (.inr (.inr ⟨rfl, h⟩))
    · exact .inr (.inr (.inl (UInt8.lt_iff_toNat_lt.2 h)))
def ltS (a b : Str) : Prop := Op.bytesLess a.toList b.toList = true
theorem ltS_irr (a : Str) : ¬ ltS a a := by unfold ltS; rw [bl_irr]; simp
theorem ltS_trans {a b c : Str} (h1 : ltS a b) (h2 : ltS b c) : ltS a c := bl_trans h1 h2
theorem ltS_ne {a b : Str} (h : ltS a b) : a ≠ b := fun e => by subst e; exact ltS_irr _ h
theorem strLe_lt {a b : Str} : strLe a b = false ↔ ltS b a := by
  unfold strLe ltS
  rw [Bool.or_eq_false_iff]
  constructor
  · rintro ⟨h1, h2⟩
    rcases bl_total a.toList b.toList with h | h | h
    · rw [h] at h1; simp at h1
    · rw [toList_inj h, str_beq] at h2; simp at h2
    · exact h
  · intro h
    refine ⟨?_, ?_⟩
    · cases h' : Op.bytesLess a.toList b.toList with
      | false => rfl
      | true => have := bl_trans h h'; rw [bl_irr] at this; simp at this
    · rw [str_beq, decide_eq_false_iff_not]
      exact fun e => by subst e; rw [bl_irr] at h; simp at h
theorem gtN_iff {n : Str} {f : File} : gtN n f = true ↔ ltS n f.name := by
  unfold gtN
  rw [Bool.not_eq_true', strLe_lt]
theorem isN_iff {n : Str} {f : File} : isN n f = true ↔ f.name = n := by simp [isN]
theorem lt_cases (a b : Str) : ltS a b ∨ a = b ∨ ltS b a := by
  rcases bl_total a.toList b.toList with h | h | h
  · exact .inl h
  · exact .inr (.inl (toList_inj h))
  · exact .inr (.inr h)

/-! ### Trees that are sorted -/
def Srt (t : List File) : Prop := t.Pairwise fun a b => ltS a.name b.name
def tget (t : List File) (n : Str) : Option (List Str) := (t.find? (isN n)).map (·.lines)
theorem treeGet_tget (t : List File) (n : Str) : treeGet t n = ((tget t n).getD [], (tget t n).isSome) := by
  unfold treeGet tget
  cases t.find? (isN n) <;> rfl
theorem tget_nil (n : Str) : tget [] n = none := rfl
theorem tget_cons (f : File) (t : List File) (n : Str) : tget (f :: t) n = if f.name = n then some f.lines else tget t n := by
  unfold tget
  rw [List.find?_cons]
  by_cases h : f.name = n
  · rw [if_pos h, isN_iff.2 h]; rfl
  · rw [if_neg h, show isN n f = false by simp [isN, h]]
theorem tget_none {t : List File} {n : Str} : tget t n = none ↔ ∀ f ∈ t, f.name ≠ n := by
  simp [tget, isN]
theorem any_tget (t : List File) (n : Str) : t.any (isN n) = (tget t n).isSome := by
  unfold tget
  rw [Option.isSome_map, List.find?_isSome'] 
where
  List.find?_isSome' : (t.find? (isN n)).isSome = t.any (isN n) := by
    rw [Bool.eq_iff_iff, List.find?_isSome, List.any_eq_true]
theorem tget_mem {t : List File} {n : Str} {l : List Str} (h : tget t n = some l) : (⟨n, l⟩ : File) ∈ t := by
  unfold tget at h
  cases hf : t.find? (isN n) with
  | none => rw [hf] at h; simp at h
  | some f =>
    rw [hf] at h
    have h1 := List.find?_some hf
    have h2 := List.mem_of_find?_eq_some hf
    rw [isN_iff] at h1
    simp only [Option.map_some, Option.some.injEq] at h
    subst h1; subst h
    exact h2
def insT : List File → Str → List Str → List File
  | [], n, l => [⟨n, l⟩]
  | f :: t, n, l => if f.name = n then ⟨n, l⟩ :: t else if gtN n f = true then ⟨n, l⟩ :: f :: t else f :: insT t n l
def delT (n : Str) (t : List File) : List File := t.eraseP (isN n)
theorem treeDel_delT (t : List File) (n : Str) : treeDel t n = delT n t := by
  rw [treeDel_erase, delT]
  induction t with
  | nil => rfl
  | cons f t ih =>
    rw [List.findIdx_cons, List.eraseP_cons]
    cases h : isN n f
    · simp only [cond_false, List.eraseIdx_cons_succ, ih]
    · simp
theorem treePut_insT {t : List File} (hs : Srt t) (n : Str) (l : List Str) : treePut t n l = insT t n l := by
  induction t with
  | nil => rfl
  | cons f t ih =>
    obtain ⟨h1, h2⟩ := List.pairwise_cons.1 hs
    have ih := ih h2
    unfold treePut at ih ⊢
    rw [insT, List.any_cons, List.findIdx_cons, List.findIdx_cons]
    by_cases hf : f.name = n
    · rw [if_pos hf, show isN n f = true from isN_iff.2 hf]
      simp
    · rw [if_neg hf, show isN n f = false by simp [isN, hf], Bool.false_or]
      cases hg : gtN n f with
      | true =>
        have hno : t.any (isN n) = false := by
          rw [any_tget, Option.isSome_eq_false_iff, Option.isNone_iff_eq_none, tget_none]
          intro x hx e
          have := ltS_trans (gtN_iff.1 hg) (h1 x hx)
          exact ltS_ne this e.symm
        rw [hno, if_neg (by simp), if_pos rfl]
        simp
      | false =>
        rw [← ih]
        cases t.any (isN n) <;> simp
theorem mem_insT {t : List File} {n : Str} {l : List Str} {f : File} (h : f ∈ insT t n l) : f = ⟨n, l⟩ ∨ f ∈ t := by
  induction t with
  | nil => simpa [insT] using h
  | cons g t ih =>
    rw [insT] at h
    split at h
    · rcases List.mem_cons.1 h with h | h
      · exact .inl h
      · exact .inr (List.mem_cons_of_mem _ h)
    · split at h
      · rcases List.mem_cons.1 h with h | h
        · exact .inl h
        · exact .inr h
      · rcases List.mem_cons.1 h with h | h
        · exact .inr (by rw [h]; exact List.mem_cons_self)
        · rcases ih h with h | h
          · exact .inl h
          · exact .inr (List.mem_cons_of_mem _ h)
theorem insT_srt {t : List File} (hs : Srt t) (n : Str) (l : List Str) : Srt (insT t n l) := by
  induction t with
  | nil => simp [insT, Srt]
  | cons f t ih =>
    obtain ⟨h1, h2⟩ := List.pairwise_cons.1 hs
    rw [insT]
    split
    · rename_i hf
      exact List.pairwise_cons.2 ⟨fun x hx => by have := h1 x hx; rw [hf] at this; exact this, h2⟩
    · rename_i hf
      split
      · rename_i hg
        refine List.pairwise_cons.2 ⟨fun x hx => ?_, hs⟩
        rcases List.mem_cons.1 hx with rfl | hx
        · exact gtN_iff.1 hg
        · exact ltS_trans (gtN_iff.1 hg) (h1 x hx)
      · rename_i hg
        refine List.pairwise_cons.2 ⟨fun x hx => ?_, ih h2⟩
        rcases mem_insT hx with rfl | hx
        · rcases lt_cases f.name n with h | h | h
          · exact h
          · exact absurd h hf
          · exact absurd (gtN_iff.2 h) hg
        · exact h1 x hx
theorem delT_srt {t : List File} (hs : Srt t) (n : Str) : Srt (delT n t) := hs.sublist List.eraseP_sublist
theorem tget_insT {t : List File} (hs : Srt t) (n m : Str) (l : List Str) : tget (insT t n l) m = if n = m then some l else tget t m := by
  induction t with
  | nil => rw [insT, tget_cons]
  | cons f t ih =>
    obtain ⟨h1, h2⟩ := List.pairwise_cons.1 hs
    rw [insT]
    split
    · rename_i hf
      rw [tget_cons, tget_cons]
      simp only [hf]
      split <;> rfl
    · rename_i hf
      split
      · rw [tget_cons]
      · rw [tget_cons, ih h2, tget_cons]
        by_cases hm : f.name = m
        · rw [if_pos hm, if_neg (fun e => hf (hm.trans e.symm)), if_pos hm]
        · rw [if_neg hm, if_neg hm]
theorem tget_delT {t : List File} (hs : Srt t) (n m : Str) : tget (delT n t) m = if n = m then none else tget t m := by
  induction t with
  | nil => simp [delT, tget_nil]
  | cons f t ih =>
    obtain ⟨h1, h2⟩ := List.pairwise_cons.1 hs
    have ih := ih h2
    unfold delT at ih ⊢
    rw [List.eraseP_cons]
    by_cases hf : f.name = n
    · rw [show isN n f = true from isN_iff.2 hf, cond_true, tget_cons]
      by_cases hm : n = m
      · rw [if_pos hm, tget_none]
        intro x hx e
        have := ltS_ne (h1 x hx)
        rw [hf, hm, e] at this
        exact this rfl
      · rw [if_neg hm, if_neg (by rw [hf]; exact hm)]
    · rw [show isN n f = false by simp [isN, hf], cond_false, tget_cons, ih, tget_cons]
      by_cases hm : f.name = m
      · rw [if_pos hm, if_neg (fun e => hf (hm.trans e.symm)), if_pos hm]
      · rw [if_neg hm, if_neg hm]
/-- Sorted trees that hold the same are the same. -/
theorem srt_ext {t u : List File} (ht : Srt t) (hu : Srt u) (h : ∀ n, tget t n = tget u n) : t = u := by
  induction t generalizing u with
  | nil =>
    cases u with
    | nil => rfl
    | cons g u => have := h g.name; rw [tget_nil, tget_cons, if_pos rfl] at this; simp at this
  | cons f t ih =>
    cases u with
    | nil => have := h f.name; rw [tget_nil, tget_cons, if_pos rfl] at this; simp at this
    | cons g u =>
      obtain ⟨h1, h2⟩ := List.pairwise_cons.1 ht
      obtain ⟨k1, k2⟩ := List.pairwise_cons.1 hu
      have hfg : f.name = g.name := by
        rcases lt_cases f.name g.name with hl | hl | hl
        · have := h f.name
          rw [tget_cons, if_pos rfl, tget_cons, if_neg (fun e => ltS_ne hl e.symm)] at this
          have := tget_mem this.symm
          exact absurd (ltS_trans hl (k1 _ this)) (ltS_irr _)
        · exact hl
        · have := h g.name
          rw [tget_cons, if_neg (fun e => ltS_ne hl e.symm), tget_cons, if_pos rfl] at this
          have := tget_mem this
          exact absurd (ltS_trans hl (h1 _ this)) (ltS_irr _)
      have hl : f.lines = g.lines := by
        have := h f.name
        rw [tget_cons, if_pos rfl, tget_cons, if_pos hfg.symm] at this
        exact Option.some.inj this
      have hfe : f = g := by
        obtain ⟨a, b⟩ := f
        obtain ⟨c, d⟩ := g
        simp only at hfg hl
        rw [hfg, hl]
      subst hfe
      congr 1
      refine ih h2 k2 fun n => ?_
      by_cases hn : f.name = n
      · rw [tget_none.2 fun x hx e => ltS_ne (h1 x hx) (hn.trans e.symm), tget_none.2 fun x hx e => ltS_ne (k1 x hx) (hn.trans e.symm)]
      · have := h n
        rwa [tget_cons, if_neg hn, tget_cons, if_neg hn] at this
theorem treeMay_srt {t : List File} (h : treeMay t = true) : Srt t := by
  unfold treeMay at h
  rw [Bool.and_eq_true, List.all_eq_true] at h
  have hall : ∀ (i : Nat) (hi : i < t.length), fileMay t i t[i] = true := fun i hi => h.1 _ (List.mem_mapIdx.2 ⟨i, hi, rfl⟩)
  have hstep : ∀ (i : Nat) (hi : i + 1 < t.length), ltS t[i].name t[i + 1].name := fun i hi => by
    have := hall (i + 1) hi
    rw [fileMay, Bool.and_eq_true, Nat.add_sub_cancel, List.getElem?_eq_getElem (show i < t.length by omega)] at this
    have h2 := this.2
    simp only [Nat.zero_lt_succ, decide_true, Bool.true_and, Bool.not_eq_true', Option.map_some, Option.getD_some] at h2
    exact strLe_lt.1 h2
  unfold Srt
  rw [List.pairwise_iff_getElem]
  intro i j hi hj hij
  induction j with
  | zero => omega
  | succ j ih =>
    by_cases he : i = j
    · subst he; exact hstep i hj
    · exact ltS_trans (ih (by omega) (by omega)) (hstep j hj)
end Go.Qm

/- Changes upon sorted trees: plain laws. -/
namespace Go.Qm
open Go.RowKit Go.Vam
set_option linter.unusedSimpArgs false
set_option linter.unusedVariables false

theorem atL_iff {a : List Str} {k : Int} {b : List Str} : atL a k b = true ↔ ∃ pre post, a = pre ++ b ++ post ∧ (pre.length : Int) = k := by
  unfold atL
  simp only [Bool.and_eq_true, decide_eq_true_eq, strsEq_iff]
  constructor
  · rintro ⟨h0, h1, h2, h3⟩
    refine ⟨a.take k.toNat, a.drop (k.toNat + b.length), ?_, by simp; omega⟩
    conv => lhs; rw [← List.take_append_drop k.toNat a, ← List.take_append_drop b.length (a.drop k.toNat), h3, List.drop_drop]
    rw [List.append_assoc]
  · rintro ⟨pre, post, rfl, rfl⟩
    refine ⟨by omega, by simp; omega, by simp; omega, ?_⟩
    simp
theorem swap_parts (pre b post c : List Str) : (pre ++ b ++ post).take ((pre.length : Int)).toNat ++ c ++ (pre ++ b ++ post).drop (((pre.length : Int)).toNat + b.length) = pre ++ c ++ post := by
  rw [Int.toNat_natCast]
  have h1 : (pre ++ b ++ post).take pre.length = pre := by rw [List.append_assoc, List.take_left]
  have h2 : (pre ++ b ++ post).drop (pre.length + b.length) = post := by rw [show pre.length + b.length = (pre ++ b).length by simp, List.drop_left]
  rw [h1, h2]
theorem applyH_parts {l : List Str} {h : Hunk} (h0 : (applyH l h).2 = 0) : hunkOk h = true ∧ ∃ pre post, l = pre ++ h.old ++ post ∧ (pre.length : Int) = h.at_ ∧ applyH l h = (pre ++ h.new ++ post, 0) := by
  unfold applyH at h0 ⊢
  by_cases ho : hunkOk h = true
  · rw [if_pos ho] at h0 ⊢
    by_cases ha : atL l h.at_ h.old = true
    · rw [if_pos ha]
      obtain ⟨pre, post, e1, e2⟩ := atL_iff.1 ha
      refine ⟨ho, pre, post, e1, e2, ?_⟩
      rw [e1, ← e2, swap_parts]
    · rw [if_neg ha] at h0; simp at h0
  · rw [if_neg ho] at h0; simp at h0
theorem applyH_of {l : List Str} {h : Hunk} {pre post : List Str} (ho : hunkOk h = true) (e1 : l = pre ++ h.old ++ post) (e2 : (pre.length : Int) = h.at_) : applyH l h = (pre ++ h.new ++ post, 0) := by
  unfold applyH
  rw [if_pos ho, if_pos (atL_iff.2 ⟨pre, post, e1, e2⟩), e1, ← e2, swap_parts]
theorem hunkOk_turn (h : Hunk) : hunkOk (turnH h) = hunkOk h := by
  unfold hunkOk turnH
  simp only
  cases decide (0 ≤ h.at_) <;> cases decide (h.at_ ≤ 1048576) <;> cases linesOk h.old <;> cases linesOk h.new <;> rfl
theorem applyH_back {l : List Str} {h : Hunk} (h0 : (applyH l h).2 = 0) : applyH (applyH l h).1 (turnH h) = (l, 0) := by
  obtain ⟨ho, pre, post, e1, e2, e3⟩ := applyH_parts h0
  have h2 := applyH_of (l := pre ++ h.new ++ post) (h := turnH h) (pre := pre) (post := post) (by rw [hunkOk_turn]; exact ho) rfl e2
  rw [e3]
  show applyH (pre ++ h.new ++ post) (turnH h) = _
  rw [h2, e1]
  rfl
theorem applyH_idle {l : List Str} {h : Hunk} (h0 : (applyH l h).2 = 0) (hi : h.old = h.new) : (applyH l h).1 = l := by
  obtain ⟨ho, pre, post, e1, e2, e3⟩ := applyH_parts h0
  rw [e3, e1, hi]

/-! ### The laws of one change -/
theorem apply_err {t : List File} {p : Prim} (h : (applyP t p).2 ≠ 0) : (applyP t p).1 = [] := by
  unfold applyP addT rmT moveT patchT setT at h ⊢
  repeat' split
  all_goals simp_all
theorem get2 {t : List File} {n : Str} : (treeGet t n).2 = true ↔ ∃ l, tget t n = some l := by
  rw [treeGet_tget]
  exact Option.isSome_iff_exists
theorem get2f {t : List File} {n : Str} : (treeGet t n).2 = false ↔ tget t n = none := by
  rw [treeGet_tget]
  simp
theorem get1 {t : List File} {n : Str} {l : List Str} (h : tget t n = some l) : (treeGet t n).1 = l := by rw [treeGet_tget, h]; rfl
/-- What a change does, by what the tree holds. -/
inductive Does (t : List File) (p : Prim) (u : List File) : Prop
  | add (hk : p.kind = 0) (h : tget t p.name = none) (hu : u = insT t p.name [])
  | rm (hk : p.kind = 1) (h : tget t p.name = some []) (hu : u = delT p.name t)
  | move (l : List Str) (hk : p.kind = 2) (h : tget t p.name = some l) (h2 : tget t p.to = none) (hne : p.name ≠ p.to) (hu : u = insT (delT p.name t) p.to l)
  | patch (l : List Str) (hk : p.kind = 3) (h : tget t p.name = some l) (h0 : (applyH l p.h).2 = 0) (hu : u = insT t p.name (applyH l p.h).1)
  | set (hk : p.kind = 4) (h : tget t p.name = some p.h.old) (hu : u = insT t p.name p.h.new)
theorem may_ne {p : Prim} (hm : mayP p = true) (hk : p.kind = 2) : p.name ≠ p.to := by
  unfold mayP at hm
  rw [if_neg (by omega), if_pos hk] at hm
  simp only [Bool.and_eq_true, Bool.not_eq_true', decide_eq_false_iff_not] at hm
  exact hm.1.2
theorem apply_does {t : List File} {p : Prim} (hs : Srt t) (h : (applyP t p).2 = 0) : mayP p = true ∧ Does t p (applyP t p).1 := by
  cases hm : mayP p with
  | false => unfold applyP at h; rw [hm] at h; simp at h
  | true =>
    refine ⟨rfl, ?_⟩
    have hk : p.kind = 0 ∨ p.kind = 1 ∨ p.kind = 2 ∨ p.kind = 3 ∨ p.kind = 4 := by
      unfold mayP at hm
      repeat' (split at hm)
      all_goals first | omega | simp at hm
    unfold applyP at h ⊢
    rw [hm] at h ⊢
    simp only [if_true] at h ⊢
    rcases hk with hk | hk | hk | hk | hk
    · rw [if_pos hk] at h ⊢
      unfold addT at h ⊢
      split at h
      · simp at h
      · rename_i hg
        rw [if_neg hg]
        exact .add hk (get2f.1 (by simpa using hg)) (treePut_insT hs _ _)
    · rw [if_neg (by omega), if_pos hk] at h ⊢
      unfold rmT at h ⊢
      split at h
      · rename_i hg
        rw [if_pos hg]
        obtain ⟨l, hl⟩ := get2.1 hg.1
        have h2 := hg.2
        rw [get1 hl] at h2
        rw [List.eq_nil_of_length_eq_zero h2] at hl
        exact .rm hk hl (treeDel_delT _ _)
      · simp at h
    · rw [if_neg (by omega), if_neg (by omega), if_pos hk] at h ⊢
      unfold moveT at h ⊢
      split at h
      · rename_i hg
        rw [if_pos hg]
        obtain ⟨l, hl⟩ := get2.1 hg.1
        refine .move l hk hl (get2f.1 hg.2) (may_ne hm hk) ?_
        simp only
        rw [get1 hl, treeDel_delT, treePut_insT (delT_srt hs _)]
      · simp at h
    · rw [if_neg (by omega), if_neg (by omega), if_neg (by omega), if_pos hk] at h ⊢
      unfold patchT at h ⊢
      split at h
      · rename_i hg
        rw [if_pos hg]
        obtain ⟨l, hl⟩ := get2.1 hg
        rw [get1 hl] at h ⊢
        split at h
        · rename_i h0
          rw [if_pos h0]
          exact .patch l hk hl h0 (treePut_insT hs _ _)
        · rename_i h0; exact absurd h h0
      · simp at h
    · rw [if_neg (by omega), if_neg (by omega), if_neg (by omega), if_neg (by omega)] at h ⊢
      unfold setT at h ⊢
      split at h
      · rename_i hg
        rw [if_pos hg]
        obtain ⟨l, hl⟩ := get2.1 hg.1
        have h2 := hg.2
        rw [get1 hl] at h2
        rw [h2] at hl
        exact .set hk hl (treePut_insT hs _ _)
      · simp at h
theorem does_apply {t : List File} {p : Prim} {u : List File} (hs : Srt t) (hm : mayP p = true) (h : Does t p u) : applyP t p = (u, 0) := by
  unfold applyP
  rw [if_pos hm]
  cases h with
  | add hk h hu => rw [if_pos hk, addT, if_neg (by rw [get2f.2 h]; simp), treePut_insT hs, hu]
  | rm hk h hu => rw [if_neg (by omega), if_pos hk, rmT, if_pos ⟨get2.2 ⟨_, h⟩, by rw [get1 h]; rfl⟩, treeDel_delT, hu]
  | move l hk h h2 hne hu => rw [if_neg (by omega), if_neg (by omega), if_pos hk, moveT, if_pos ⟨get2.2 ⟨_, h⟩, get2f.2 h2⟩, get1 h, treeDel_delT, treePut_insT (delT_srt hs _), hu]
  | patch l hk h h0 hu => rw [if_neg (by omega), if_neg (by omega), if_neg (by omega), if_pos hk, patchT, if_pos (get2.2 ⟨_, h⟩), get1 h, if_pos h0, treePut_insT hs, hu]
  | set hk h hu => rw [if_neg (by omega), if_neg (by omega), if_neg (by omega), if_neg (by omega), setT, if_pos ⟨get2.2 ⟨_, h⟩, get1 h⟩, treePut_insT hs, hu]
/-- What a tree holds behind a change. -/
def now (p : Prim) (t : List File) (n : Str) : Option (List Str) :=
  if p.kind = 0 then if p.name = n then some [] else tget t n
  else if p.kind = 1 then if p.name = n then none else tget t n
  else if p.kind = 2 then if p.to = n then tget t p.name else if p.name = n then none else tget t n
  else if p.kind = 3 then if p.name = n then (tget t n).map fun l => (applyH l p.h).1 else tget t n
  else if p.name = n then some p.h.new else tget t n
theorem does_srt {t : List File} {p : Prim} {u : List File} (hs : Srt t) (h : Does t p u) : Srt u := by
  cases h with
  | add hk h hu => rw [hu]; exact insT_srt hs _ _
  | rm hk h hu => rw [hu]; exact delT_srt hs _
  | move l hk h h2 hne hu => rw [hu]; exact insT_srt (delT_srt hs _) _ _
  | patch l hk h h0 hu => rw [hu]; exact insT_srt hs _ _
  | set hk h hu => rw [hu]; exact insT_srt hs _ _
theorem does_now {t : List File} {p : Prim} {u : List File} (hs : Srt t) (h : Does t p u) (n : Str) : tget u n = now p t n := by
  unfold now
  cases h with
  | add hk h hu => rw [if_pos hk, hu, tget_insT hs]
  | rm hk h hu => rw [if_neg (by omega), if_pos hk, hu, tget_delT hs]
  | move l hk h h2 hne hu =>
    rw [if_neg (by omega), if_neg (by omega), if_pos hk, hu, tget_insT (delT_srt hs _), tget_delT hs, h]
  | patch l hk h h0 hu =>
    rw [if_neg (by omega), if_neg (by omega), if_neg (by omega), if_pos hk, hu, tget_insT hs]
    by_cases hn : p.name = n
    · rw [if_pos hn, if_pos hn, ← hn, h]; rfl
    · rw [if_neg hn, if_neg hn]
  | set hk h hu => rw [if_neg (by omega), if_neg (by omega), if_neg (by omega), if_neg (by omega), hu, tget_insT hs]
/-- What a change changes it changes back, turned. -/
theorem turnP_kind (p : Prim) : (turnP p).kind = if p.kind = 0 then 1 else if p.kind = 1 then 0 else p.kind := by
  unfold turnP
  repeat' split
  all_goals simp_all
theorem mayP_turn (p : Prim) : mayP (turnP p) = mayP p := by
  obtain ⟨k, n, m, h⟩ := p
  by_cases h0 : k = 0
  · subst h0; rfl
  by_cases h1 : k = 1
  · subst h1; rfl
  by_cases h2 : k = 2
  · subst h2
    have e : turnP ⟨2, n, m, h⟩ = ⟨2, m, n, h⟩ := rfl
    rw [e, mayP, mayP]
    simp only
    rw [show decide (m = n) = decide (n = m) by rw [decide_eq_decide]; exact eq_comm, Bool.and_comm (nameOk m)]
    rfl
  by_cases h3 : k = 3
  · subst h3
    have e : turnP ⟨3, n, m, h⟩ = ⟨3, n, m, turnH h⟩ := rfl
    rw [e, mayP, mayP]
    simp only [hunkOk_turn]
    rfl
  by_cases h4 : k = 4
  · subst h4
    have e : turnP ⟨4, n, m, h⟩ = ⟨4, n, m, turnH h⟩ := rfl
    rw [e, mayP, mayP]
    simp only [hunkOk_turn]
    rfl
  · have e : turnP ⟨k, n, m, h⟩ = ⟨k, n, m, turnH h⟩ := by unfold turnP; rw [if_neg h0, if_neg h1, if_neg h2]
    rw [e, mayP, mayP]
    simp [h0, h1, h2, h3, h4]
theorem does_back {t : List File} {p : Prim} {u : List File} (hs : Srt t) (h : Does t p u) : Does u (turnP p) t := by
  have hu' := does_srt hs h
  have hn := does_now hs h
  obtain ⟨k, n, m, h'⟩ := p
  cases h with
  | add hk h hu =>
    simp only at hk
    subst hk
    refine .rm (p := turnP ⟨0, n, m, h'⟩) rfl ?_ (srt_ext hs (delT_srt hu' _) fun x => ?_)
    · show tget u n = _
      rw [hn]; simp [now]
    · show tget t x = tget (delT n u) x
      rw [tget_delT hu', hn]
      by_cases hx : n = x
      · subst hx; simp [h]
      · simp [now, hx]
  | rm hk h hu =>
    simp only at hk
    subst hk
    refine .add (p := turnP ⟨1, n, m, h'⟩) rfl ?_ (srt_ext hs (insT_srt hu' _ _) fun x => ?_)
    · show tget u n = _
      rw [hn]; simp [now]
    · show tget t x = tget (insT u n []) x
      rw [tget_insT hu', hn]
      by_cases hx : n = x
      · subst hx; simp [h]
      · simp [now, hx]
  | move l hk h h2 hne hu =>
    simp only at hk h h2 hne
    subst hk
    refine .move (p := turnP ⟨2, n, m, h'⟩) l rfl ?_ ?_ (fun e => hne e.symm) (srt_ext hs (insT_srt (delT_srt hu' _) _ _) fun x => ?_)
    · show tget u m = _
      rw [hn]; simp [now, h]
    · show tget u n = _
      rw [hn]; simp [now, Ne.symm hne]
    · show tget t x = tget (insT (delT m u) n l) x
      rw [tget_insT (delT_srt hu' _), tget_delT hu', hn]
      by_cases hx : n = x
      · subst hx; simp [h]
      · by_cases hx2 : m = x
        · subst hx2; simp [hx, h2]
        · simp [now, hx, hx2]
  | patch l hk h h0 hu =>
    simp only at hk h h0
    subst hk
    have hb := applyH_back h0
    have hg : tget u n = some (applyH l h').1 := by rw [hn]; simp [now, h]
    refine .patch (p := turnP ⟨3, n, m, h'⟩) (applyH l h').1 rfl hg ?_ (srt_ext hs (insT_srt hu' _ _) fun x => ?_)
    · show (applyH (applyH l h').1 (turnH h')).2 = 0
      rw [hb]
    · show tget t x = tget (insT u n (applyH (applyH l h').1 (turnH h')).1) x
      rw [hb, tget_insT hu', hn]
      by_cases hx : n = x
      · subst hx; simp [h]
      · simp [now, hx]
  | set hk h hu =>
    simp only at hk h
    subst hk
    refine .set (p := turnP ⟨4, n, m, h'⟩) rfl ?_ (srt_ext hs (insT_srt hu' _ _) fun x => ?_)
    · show tget u n = some h'.new
      rw [hn]; simp [now]
    · show tget t x = tget (insT u n h'.old) x
      rw [tget_insT hu', hn]
      by_cases hx : n = x
      · subst hx; simp [h]
      · simp [now, hx]
theorem apply_back {t : List File} {p : Prim} (hs : Srt t) (h : (applyP t p).2 = 0) : applyP (applyP t p).1 (turnP p) = (t, 0) := by
  obtain ⟨hm, hd⟩ := apply_does hs h
  exact does_apply (does_srt hs hd) (by rw [mayP_turn]; exact hm) (does_back hs hd)
theorem apply_srt {t : List File} {p : Prim} (hs : Srt t) (h : (applyP t p).2 = 0) : Srt (applyP t p).1 := does_srt hs (apply_does hs h).2
theorem apply_now {t : List File} {p : Prim} (hs : Srt t) (h : (applyP t p).2 = 0) (n : Str) : tget (applyP t p).1 n = now p t n := does_now hs (apply_does hs h).2 n
theorem idle_iff {p : Prim} (h : idleP p = true) : (p.kind = 3 ∨ p.kind = 4) ∧ p.h.old = p.h.new := by
  simpa [idleP, strsEq_iff] using h
theorem apply_idle {t : List File} {p : Prim} (hs : Srt t) (h : (applyP t p).2 = 0) (hi : idleP p = true) : (applyP t p).1 = t := by
  obtain ⟨hk, he⟩ := idle_iff hi
  obtain ⟨hm, hd⟩ := apply_does hs h
  refine srt_ext (apply_srt hs h) hs fun x => ?_
  rw [apply_now hs h]
  cases hd with
  | add hk' h hu => omega
  | rm hk' h hu => omega
  | move l hk' h h2 hne hu => omega
  | patch l hk' h h0 hu =>
    by_cases hx : p.name = x
    · subst hx; simp [now, hk', h, applyH_idle h0 he]
    · simp [now, hk', hx]
  | set hk' h hu =>
    by_cases hx : p.name = x
    · subst hx; simp [now, hk', h, he]
    · simp [now, hk', hx]
theorem apply_once {t : List File} {p : Prim} (hs : Srt t) (h : (applyP t p).2 = 0) (hk : p.kind ≤ 2) : applyP (applyP t p).1 p = ([], 5) := by
  obtain ⟨hm, hd⟩ := apply_does hs h
  have hn := apply_now hs h p.name
  generalize (applyP t p).1 = u at hn hd
  cases hd with
  | add hk' h hu =>
    have hg : tget u p.name = some [] := by rw [hn]; simp [now, hk']
    rw [applyP, if_pos hm, if_pos hk', addT, if_pos (get2.2 ⟨_, hg⟩)]
  | rm hk' h hu =>
    have hg : tget u p.name = none := by rw [hn]; simp [now, hk']
    rw [applyP, if_pos hm, if_neg (by omega), if_pos hk', rmT, if_neg (by rw [get2f.2 hg]; simp)]
  | move l hk' h h2 hne hu =>
    have hg : tget u p.name = none := by rw [hn]; simp [now, hk', Ne.symm hne]
    rw [applyP, if_pos hm, if_neg (by omega), if_neg (by omega), if_pos hk', moveT, if_neg (by rw [get2f.2 hg]; simp)]
  | patch l hk' h h0 hu => omega
  | set hk' h hu => omega
theorem apply_keeps {t : List File} {p : Prim} (hs : Srt t) (h : (applyP t p).2 = 0) {n : Str} (h1 : n ≠ p.name) (h2 : n ≠ p.to) : tget (applyP t p).1 n = tget t n := by
  rw [apply_now hs h]
  simp [now, Ne.symm h1, Ne.symm h2]
theorem fileEq_iff {a b : File} : fileEq a b = true ↔ a = b := by
  obtain ⟨a1, a2⟩ := a
  obtain ⟨b1, b2⟩ := b
  simp [fileEq, strsEq_iff]
theorem treeEq_iff : ∀ {a b : List File}, treeEq a b = true ↔ a = b
  | [], [] => by simp [treeEq, all2]
  | [], _ :: _ => by simp [treeEq, all2]
  | _ :: _, [] => by simp [treeEq, all2]
  | x :: a, y :: b => by
    have := treeEq_iff (a := a) (b := b)
    unfold treeEq at this ⊢
    rw [all2, Bool.and_eq_true, fileEq_iff, this]
    simp
theorem treeEq_refl (a : List File) : treeEq a a = true := treeEq_iff.2 rfl
theorem turnP_R {p : Prim} (h : primR p) : primR (turnP p) := by
  obtain ⟨h1, h2, h3, h4⟩ := h
  unfold turnP
  repeat' split
  · exact ⟨by simp [i64], h2, h3, h4⟩
  · exact ⟨by simp [i64], h2, h3, h4⟩
  · exact ⟨h1, h3, h2, h4⟩
  · exact ⟨h1, h2, h3, ⟨h4.at_, h4.new, h4.old⟩⟩

/-! ### How great a tree becomes -/
def treeN (a b : Nat) (t : List File) : Prop := t.length ≤ a ∧ ∀ f ∈ t, f.lines.length ≤ b ∧ strZ f.name ∧ strsZ f.lines
theorem treeN.B {a b : Nat} {t : List File} (h : treeN a b t) (ha : a * 40 ≤ Big) (hb : b * 16 ≤ Big) : treeB t :=
  ⟨Nat.le_trans (Nat.mul_le_mul_right _ h.1) ha, fun f hf => ⟨Nat.le_trans (Nat.mul_le_mul_right _ (h.2 f hf).1) hb, (h.2 f hf).2.1, (h.2 f hf).2.2⟩⟩
theorem treeN.mono {a b c d : Nat} {t : List File} (h : treeN a b t) (h1 : a ≤ c) (h2 : b ≤ d) : treeN c d t := ⟨by have := h.1; omega, fun f hf => ⟨by have := (h.2 f hf).1; omega, (h.2 f hf).2⟩⟩
theorem light_N {t : List File} (hB : treeB t) (hl : treeLight t = true) : treeN 40 300 t := by
  unfold treeLight at hl
  simp only [Bool.and_eq_true, decide_eq_true_eq, List.all_eq_true] at hl
  refine ⟨by omega, fun f hf => ⟨?_, (hB.2 f hf).name, (hB.2 f hf).all⟩⟩
  have := (hl.2 f hf).1
  unfold lightS at this
  simp only [Bool.and_eq_true, decide_eq_true_eq] at this
  omega
theorem put_N {a b : Nat} {t : List File} {n : Str} {l : List Str} (h : treeN a b t) (hl : l.length ≤ b) (hn : strZ n) (hz : strsZ l) : treeN (a + 1) b (treePut t n l) := by
  have h1 := h.1
  unfold treePut
  split
  · refine ⟨by simp; omega, fun f hf => ?_⟩
    rcases List.mem_or_eq_of_mem_set hf with hf | rfl
    · exact h.2 f hf
    · exact ⟨hl, hn, hz⟩
  · refine ⟨by simp; omega, fun f hf => ?_⟩
    rcases List.mem_append.1 hf with hf | hf
    · rcases List.mem_append.1 hf with hf | hf
      · exact h.2 f (List.mem_of_mem_take hf)
      · rw [List.mem_singleton] at hf
        subst hf
        exact ⟨hl, hn, hz⟩
    · exact h.2 f (List.mem_of_mem_drop hf)
theorem del_N {a b : Nat} {t : List File} {n : Str} (h : treeN a b t) : treeN a b (treeDel t n) := by
  rw [treeDel_erase]
  exact ⟨Nat.le_trans (List.length_eraseIdx_le _ _) h.1, fun f hf => h.2 f (List.mem_of_mem_eraseIdx hf)⟩
theorem get_N {a b : Nat} {t : List File} {n : Str} (h : treeN a b t) : (treeGet t n).1.length ≤ b ∧ strsZ (treeGet t n).1 := by
  unfold treeGet
  split
  · rename_i f hf
    have := h.2 f (List.mem_of_find?_eq_some hf)
    exact ⟨this.1, this.2.2⟩
  · exact ⟨by simp, by simp [strsZ]⟩
theorem applyH_Z {l : List Str} {h : Hunk} (hl : strsZ l) (hR : hunkR h) : strsZ (applyH l h).1 := by
  unfold applyH
  split
  · split
    · intro s hs
      rcases List.mem_append.1 hs with hs | hs
      · rcases List.mem_append.1 hs with hs | hs
        · exact hl s (List.mem_of_mem_take hs)
        · exact hR.new s hs
      · exact hl s (List.mem_of_mem_drop hs)
    · simp [strsZ]
  · simp [strsZ]
theorem hunkOk_len {h : Hunk} (ho : hunkOk h = true) : h.old.length ≤ 200 ∧ h.new.length ≤ 200 := by
  simp only [hunkOk, linesOk, Bool.and_eq_true, decide_eq_true_eq] at ho
  omega
theorem mayP_len {p : Prim} (hm : mayP p = true) : p.h.old.length ≤ 200 ∧ p.h.new.length ≤ 200 := by
  unfold mayP at hm
  have hz : hunkNone p.h = true → p.h.old.length ≤ 200 ∧ p.h.new.length ≤ 200 := fun h => by
    simp only [hunkNone, Bool.and_eq_true, decide_eq_true_eq] at h
    omega
  repeat' (split at hm)
  · simp only [Bool.and_eq_true] at hm; exact hz hm.2
  · simp only [Bool.and_eq_true] at hm; exact hz hm.2
  · simp only [Bool.and_eq_true] at hm; exact hunkOk_len hm.2
  · simp only [Bool.and_eq_true] at hm; exact hunkOk_len hm.1.2
  · simp at hm
theorem apply_N {a b : Nat} {t : List File} {p : Prim} (h : treeN a b t) (hR : primR p) : treeN (a + 1) (b + 200) (applyP t p).1 := by
  have h' : treeN a (b + 200) t := h.mono (Nat.le_refl _) (by omega)
  have h0 : treeN (a + 1) (b + 200) [] := ⟨by simp, by simp⟩
  unfold applyP
  split
  · rename_i hm
    have hlen := mayP_len hm
    unfold addT rmT moveT patchT setT
    repeat' split
    all_goals first
      | exact h0
      | exact put_N h' (by simp) hR.name (by simp [strsZ])
      | exact (del_N h').mono (by omega) (Nat.le_refl _)
      | exact put_N (del_N h') (get_N h').1 hR.to (get_N h').2
      | exact put_N h' (by have e1 := applyH_len (treeGet t p.name).1 p.h; have e2 := (get_N (n := p.name) h).1; omega) hR.name (applyH_Z (get_N h').2 hR.h)
      | exact put_N h' (by omega) hR.name hR.h.new
  · exact h0
end Go.Qm

/- Changes that pass one another: plain laws. -/
namespace Go.Qm
open Go.RowKit Go.Vam
set_option linter.unusedSimpArgs false
set_option linter.unusedVariables false

def hunkZ : Hunk := ⟨0, [], []⟩
def primZ : Prim := ⟨0, ⟨#[]⟩, ⟨#[]⟩, hunkZ⟩
def moved (h : Hunk) (d : Int) : Hunk := ⟨h.at_ + d, h.old, h.new⟩
def byH (h : Hunk) : Int := (h.new.length : Int) - h.old.length
def passH (p q : Hunk) : Option (Hunk × Hunk) :=
  if hunkOk p = true ∧ hunkOk q = true then
    if q.at_ > p.at_ + p.new.length then if q.at_ - byH p ≤ 1048576 then some (moved q (-byH p), p) else none
    else if p.at_ > q.at_ + q.old.length then if p.at_ + byH q ≤ 1048576 then some (q, moved p (byH q)) else none
    else none
  else none
def namesP (p : Prim) : List Str := if p.kind = 2 then [p.name, p.to] else [p.name]
def apartP (p q : Prim) : Bool := !(namesP q).any fun s => (namesP p).any fun x => decide (x = s)
def linesP (p : Prim) : Bool := p.kind == 3 || p.kind == 4
def passP (p q : Prim) : Option (Prim × Prim) :=
  if mayP p = true ∧ mayP q = true then
    if apartP p q = true then some (q, p)
    else if p.kind = 3 ∧ q.kind = 3 then (passH p.h q.h).map fun r => (⟨q.kind, q.name, q.to, r.1⟩, ⟨p.kind, p.name, p.to, r.2⟩)
    else if p.kind = 2 ∧ linesP q = true ∧ q.name = p.to then some (⟨q.kind, p.name, q.to, q.h⟩, p)
    else if q.kind = 2 ∧ linesP p = true ∧ p.name = q.name then some (q, ⟨p.kind, q.to, p.to, p.h⟩)
    else none
  else none

theorem hunkOk_moved {h : Hunk} {d : Int} (ho : hunkOk h = true) (h0 : 0 ≤ h.at_ + d) (h1 : h.at_ + d ≤ 1048576) : hunkOk (moved h d) = true := by
  unfold hunkOk at ho ⊢
  simp only [Bool.and_eq_true, decide_eq_true_eq, moved] at ho ⊢
  exact ⟨⟨⟨decide_eq_true h0, decide_eq_true h1⟩, ho.1.2⟩, ho.2⟩
theorem hunkOk_at {h : Hunk} (ho : hunkOk h = true) : 0 ≤ h.at_ ∧ h.at_ ≤ 1048576 := by
  unfold hunkOk at ho
  simp only [Bool.and_eq_true, decide_eq_true_eq] at ho
  exact ho.1.1
theorem moved_zero (h : Hunk) : moved h 0 = h := by
  obtain ⟨a, o, n⟩ := h
  simp [moved]
theorem moved_moved (h : Hunk) (d e : Int) (hz : d + e = 0) : moved (moved h d) e = h := by
  obtain ⟨a, o, n⟩ := h
  simp only [moved, Hunk.mk.injEq, and_true]
  omega
/-- What two hunks that pass have to do with one another. -/
inductive PassesH (p q x y : Hunk) : Prop
  | behind (hp : hunkOk p = true) (hq : hunkOk q = true) (h : q.at_ > p.at_ + p.new.length) (hm : q.at_ - byH p ≤ 1048576) (hx : x = moved q (-byH p)) (hy : y = p)
  | ahead (hp : hunkOk p = true) (hq : hunkOk q = true) (h : p.at_ > q.at_ + q.old.length) (hm : p.at_ + byH q ≤ 1048576) (hx : x = q) (hy : y = moved p (byH q))
theorem passH_iff {p q x y : Hunk} : passH p q = some (x, y) ↔ PassesH p q x y := by
  unfold passH
  constructor
  · intro h
    split at h
    · rename_i hm
      split at h
      · rename_i h1
        split at h
        · rename_i h2
          simp only [Option.some.injEq, Prod.mk.injEq] at h
          exact .behind hm.1 hm.2 h1 h2 h.1.symm h.2.symm
        · simp at h
      · split at h
        · rename_i h1
          split at h
          · rename_i h2
            simp only [Option.some.injEq, Prod.mk.injEq] at h
            exact .ahead hm.1 hm.2 h1 h2 h.1.symm h.2.symm
          · simp at h
        · simp at h
    · simp at h
  · intro h
    cases h with
    | behind hp hq h hm hx hy => rw [if_pos ⟨hp, hq⟩, if_pos h, if_pos hm, hx, hy]
    | ahead hp hq h hm hx hy =>
      have := hunkOk_at hp
      have := hunkOk_at hq
      rw [if_pos ⟨hp, hq⟩, if_neg (by omega), if_pos h, if_pos hm, hx, hy]
theorem passH_back {p q x y : Hunk} (h : PassesH p q x y) (h1 : p.at_ ≤ 524288) (h2 : q.at_ ≤ 524288) : PassesH x y p q := by
  cases h with
  | behind hp hq h hm hx hy =>
    subst hx; subst hy
    have a := hunkOk_at hp
    have b := hunkOk_at hq
    unfold byH at hm ⊢
    refine .ahead (hunkOk_moved hq (by omega) (by omega)) hp (by simp only [moved]; omega) (by simp only [moved, byH]; omega) rfl (moved_moved q _ _ (by simp only [byH]; omega)).symm
  | ahead hp hq h hm hx hy =>
    subst hx; subst hy
    have a := hunkOk_at hp
    have b := hunkOk_at hq
    unfold byH at hm ⊢
    refine .behind hq (hunkOk_moved hp (by omega) (by omega)) (by simp only [moved]; omega) (by simp only [moved, byH]; omega) (moved_moved p _ _ (by simp only [byH]; omega)).symm rfl
theorem passH_turn {p q x y : Hunk} (h : PassesH p q x y) : PassesH (turnH q) (turnH p) (turnH y) (turnH x) := by
  have tb : ∀ h : Hunk, byH (turnH h) = -byH h := fun h => by simp only [byH, turnH]; omega
  cases h with
  | behind hp hq h hm hx hy =>
    subst hx; subst hy
    refine .ahead (by rw [hunkOk_turn]; exact hq) (by rw [hunkOk_turn]; exact hp) h (by rw [tb]; exact hm) rfl ?_
    rw [tb]; rfl
  | ahead hp hq h hm hx hy =>
    subst hx; subst hy
    refine .behind (by rw [hunkOk_turn]; exact hq) (by rw [hunkOk_turn]; exact hp) h (by rw [tb]; simp only [turnH]; omega) ?_ rfl
    rw [tb, Int.neg_neg]; rfl
end Go.Qm

/- The laws of two changes that pass one another. -/
namespace Go.Qm
open Go.RowKit Go.Vam
set_option linter.unusedSimpArgs false
set_option linter.unusedVariables false

theorem apart_iff {p q : Prim} : apartP p q = true ↔ ∀ s, s ∈ namesP q → s ∉ namesP p := by
  unfold apartP
  simp only [Bool.not_eq_true', List.any_eq_false, decide_eq_true_eq]
  constructor
  · intro h s hs hp
    exact h s hs (by simpa using hp)
  · intro h s hs hp
    exact h s hs (by simpa using hp)
theorem apart_all {p q : Prim} : apartP p q = true ↔ p.name ≠ q.name ∧ (p.kind = 2 → p.to ≠ q.name) ∧ (q.kind = 2 → p.name ≠ q.to) ∧ (p.kind = 2 → q.kind = 2 → p.to ≠ q.to) := by
  rw [apart_iff]
  unfold namesP
  by_cases h1 : p.kind = 2 <;> by_cases h2 : q.kind = 2 <;> simp [h1, h2] <;> grind
theorem apart_comm (p q : Prim) : apartP p q = apartP q p := by
  have : apartP p q = true ↔ apartP q p = true := by rw [apart_all, apart_all]; grind
  cases h1 : apartP p q <;> cases h2 : apartP q p <;> simp_all
theorem lines_iff {p : Prim} : linesP p = true ↔ p.kind = 3 ∨ p.kind = 4 := by simp [linesP]
/-- What two changes that pass have to do with one another. -/
inductive PassesP (p q x y : Prim) : Prop
  | apart (ha : apartP p q = true) (hx : x = q) (hy : y = p)
  | patch (a b : Hunk) (hn : p.name = q.name) (hk : p.kind = 3) (hk2 : q.kind = 3) (h : PassesH p.h q.h a b) (hx : x = ⟨q.kind, q.name, q.to, a⟩) (hy : y = ⟨p.kind, p.name, p.to, b⟩)
  | after (hk : p.kind = 2) (hl : q.kind = 3 ∨ q.kind = 4) (hn : q.name = p.to) (hx : x = ⟨q.kind, p.name, q.to, q.h⟩) (hy : y = p)
  | before (hk : q.kind = 2) (hl : p.kind = 3 ∨ p.kind = 4) (hn : p.name = q.name) (hx : x = q) (hy : y = ⟨p.kind, q.to, p.to, p.h⟩)
theorem passP_iff {p q x y : Prim} : passP p q = some (x, y) ↔ mayP p = true ∧ mayP q = true ∧ PassesP p q x y := by
  unfold passP
  constructor
  · intro h
    split at h
    · rename_i hm
      refine ⟨hm.1, hm.2, ?_⟩
      split at h
      · rename_i ha
        simp only [Option.some.injEq, Prod.mk.injEq] at h
        exact .apart ha h.1.symm h.2.symm
      · rename_i ha
        split at h
        · rename_i hk
          rw [apart_all] at ha
          cases hs : passH p.h q.h with
          | none => rw [hs] at h; simp at h
          | some r =>
            rw [hs] at h
            simp only [Option.map_some, Option.some.injEq, Prod.mk.injEq] at h
            exact .patch r.1 r.2 (by grind) hk.1 hk.2 (passH_iff.1 hs) h.1.symm h.2.symm
        · split at h
          · rename_i hk
            simp only [Option.some.injEq, Prod.mk.injEq] at h
            exact .after hk.1 (lines_iff.1 hk.2.1) hk.2.2 h.1.symm h.2.symm
          · split at h
            · rename_i hk
              simp only [Option.some.injEq, Prod.mk.injEq] at h
              exact .before hk.1 (lines_iff.1 hk.2.1) hk.2.2 h.1.symm h.2.symm
            · simp at h
    · simp at h
  · rintro ⟨h1, h2, h⟩
    rw [if_pos ⟨h1, h2⟩]
    cases h with
    | apart ha hx hy => rw [if_pos ha, hx, hy]
    | patch a b hn hk hk2 h hx hy => rw [if_neg (by rw [apart_all]; grind), if_pos ⟨hk, hk2⟩, passH_iff.2 h, hx, hy]; rfl
    | after hk hl hn hx hy => rw [if_neg (by rw [apart_all]; grind), if_neg (by omega), if_pos ⟨hk, lines_iff.2 hl, hn⟩, hx, hy]
    | before hk hl hn hx hy => rw [if_neg (by rw [apart_all]; grind), if_neg (by omega), if_neg (by omega), if_pos ⟨hk, lines_iff.2 hl, hn⟩, hx, hy]
theorem may_name {p : Prim} (h : mayP p = true) : nameOk p.name = true := by
  unfold mayP at h
  repeat' split at h
  all_goals grind [singleP]
theorem may_to {p : Prim} (h : mayP p = true) (hk : p.kind = 2) : nameOk p.to = true := by
  unfold mayP at h
  grind
theorem may_h {p : Prim} (h : mayP p = true) (hk : p.kind = 3) : hunkOk p.h = true := by
  unfold mayP at h
  grind
theorem may_ren {p : Prim} (h : mayP p = true) (hk : p.kind = 3 ∨ p.kind = 4) {n : Str} (hn : nameOk n = true) : mayP ⟨p.kind, n, p.to, p.h⟩ = true := by
  unfold mayP singleP at h ⊢
  simp only
  grind
theorem may_moved {p : Prim} (h : mayP p = true) (hk : p.kind = 3) {a : Hunk} (ha : hunkOk a = true) : mayP ⟨p.kind, p.name, p.to, a⟩ = true := by
  unfold mayP singleP at h ⊢
  simp only
  grind
theorem passH_ok {p q x y : Hunk} (h : PassesH p q x y) : hunkOk x = true ∧ hunkOk y = true := by
  cases h with
  | behind hp hq h hm hx hy =>
    have := hunkOk_at hp
    subst hx hy
    exact ⟨hunkOk_moved hq (by simp only [byH]; omega) (by omega), hp⟩
  | ahead hp hq h hm hx hy =>
    have := hunkOk_at hq
    subst hx hy
    exact ⟨hq, hunkOk_moved hp (by simp only [byH]; omega) (by omega)⟩
theorem pass_may {p q x y : Prim} (h : passP p q = some (x, y)) : mayP x = true ∧ mayP y = true := by
  obtain ⟨h1, h2, h⟩ := passP_iff.1 h
  cases h with
  | apart ha hx hy => subst hx hy; exact ⟨h2, h1⟩
  | patch a b hn hk hk2 hh hx hy => subst hx hy; exact ⟨may_moved h2 hk2 (passH_ok hh).1, may_moved h1 hk (passH_ok hh).2⟩
  | after hk hl hn hx hy => subst hx hy; exact ⟨may_ren h2 hl (may_name h1), h1⟩
  | before hk hl hn hx hy => subst hx hy; exact ⟨h2, may_ren h1 hl (may_to h2 hk)⟩
theorem passH_backW {p q x y : Hunk} (h : PassesH p q x y) (h1 : p.at_ ≤ 1048376) (h2 : q.at_ ≤ 1048376) : PassesH x y p q := by
  cases h with
  | behind hp hq h hm hx hy =>
    subst hx; subst hy
    have a := hunkOk_at hp
    have b := hunkOk_at hq
    have c := hunkOk_len hp
    have d := hunkOk_len hq
    unfold byH at hm ⊢
    refine .ahead (hunkOk_moved hq (by omega) (by omega)) hp (by simp only [moved]; omega) (by simp only [moved, byH]; omega) rfl (moved_moved q _ _ (by simp only [byH]; omega)).symm
  | ahead hp hq h hm hx hy =>
    subst hx; subst hy
    have a := hunkOk_at hp
    have b := hunkOk_at hq
    have c := hunkOk_len hp
    have d := hunkOk_len hq
    unfold byH at hm ⊢
    refine .behind hq (hunkOk_moved hp (by omega) (by omega)) (by simp only [moved]; omega) (by simp only [moved, byH]; omega) (moved_moved p _ _ (by simp only [byH]; omega)).symm rfl
theorem pass_back {p q x y : Prim} (h : passP p q = some (x, y)) (h1 : p.h.at_ ≤ 1048376) (h2 : q.h.at_ ≤ 1048376) : passP x y = some (p, q) := by
  have hm := pass_may h
  obtain ⟨m1, m2, h⟩ := passP_iff.1 h
  refine passP_iff.2 ⟨hm.1, hm.2, ?_⟩
  cases h with
  | apart ha hx hy => subst hx hy; exact .apart (by rw [apart_comm]; exact ha) rfl rfl
  | patch a b hn hk hk2 hh hx hy => subst hx hy; exact .patch p.h q.h hn.symm hk2 hk (passH_backW hh h1 h2) rfl rfl
  | after hk hl hn hx hy => subst hx hy; exact .before hk hl rfl rfl (by rw [← hn])
  | before hk hl hn hx hy => subst hx hy; exact .after hk hl rfl (by rw [← hn]) rfl
theorem turnP_names {p : Prim} (s : Str) : s ∈ namesP (turnP p) ↔ s ∈ namesP p := by
  unfold namesP turnP
  grind
theorem apart_turn (p q : Prim) : apartP (turnP q) (turnP p) = apartP p q := by
  have : apartP (turnP q) (turnP p) = true ↔ apartP p q = true := by
    rw [apart_iff, apart_iff]
    simp only [turnP_names]
    constructor <;> intro h s hs hp <;> exact h s hp hs
  cases h1 : apartP (turnP q) (turnP p) <;> cases h2 : apartP p q <;> simp_all
theorem turnP_lines {p : Prim} (hk : p.kind = 3 ∨ p.kind = 4) : turnP p = ⟨p.kind, p.name, p.to, turnH p.h⟩ := by unfold turnP; rw [if_neg (by omega), if_neg (by omega), if_neg (by omega)]
theorem turnP_move {p : Prim} (hk : p.kind = 2) : turnP p = ⟨2, p.to, p.name, p.h⟩ := by unfold turnP; rw [if_neg (by omega), if_neg (by omega), if_pos hk, hk]
theorem passes_turn {p q x y : Prim} (h : PassesP p q x y) : PassesP (turnP q) (turnP p) (turnP y) (turnP x) := by
  cases h with
  | apart ha hx hy => subst hx hy; exact .apart (by rw [apart_turn]; exact ha) rfl rfl
  | patch a b hn hk hk2 h hx hy =>
    subst hx hy
    rw [turnP_lines (.inl hk), turnP_lines (.inl hk2), turnP_lines (p := Prim.mk p.kind p.name p.to b) (.inl hk), turnP_lines (p := Prim.mk q.kind q.name q.to a) (.inl hk2)]
    exact .patch (turnH b) (turnH a) hn.symm hk2 hk (passH_turn h) rfl rfl
  | after hk hl hn hx hy =>
    rw [hx, hy]
    rw [turnP_lines hl, turnP_lines (p := Prim.mk q.kind p.name q.to q.h) hl, turnP_move hk]
    exact .before rfl hl hn rfl rfl
  | before hk hl hn hx hy =>
    rw [hx, hy]
    rw [turnP_lines hl, turnP_lines (p := Prim.mk p.kind q.to p.to p.h) hl, turnP_move hk]
    exact .after rfl hl hn rfl rfl
theorem pass_turn {p q x y : Prim} (h : passP p q = some (x, y)) : passP (turnP q) (turnP p) = some (turnP y, turnP x) := by
  obtain ⟨m1, m2, h⟩ := passP_iff.1 h
  exact passP_iff.2 ⟨by rw [mayP_turn]; exact m2, by rw [mayP_turn]; exact m1, passes_turn h⟩
end Go.Qm

/- Changes that pass one another, upon a tree; three of them. -/
namespace Go.Qm
open Go.RowKit Go.Vam
set_option linter.unusedSimpArgs false
set_option linter.unusedVariables false

theorem does_copy {t s u : List File} {p : Prim} (h : Does t p u) (hc : ∀ n, n ∈ namesP p → tget s n = tget t n) : ∃ w, Does s p w := by
  have h1 : tget s p.name = tget t p.name := hc _ (by unfold namesP; split <;> simp)
  cases h with
  | add hk h hu => exact ⟨_, .add hk (h1.trans h) rfl⟩
  | rm hk h hu => exact ⟨_, .rm hk (h1.trans h) rfl⟩
  | move l hk h h2 hne hu => exact ⟨_, .move l hk (h1.trans h) ((hc _ (by simp [namesP, hk])).trans h2) hne rfl⟩
  | patch l hk h h0 hu => exact ⟨_, .patch l hk (h1.trans h) h0 rfl⟩
  | set hk h hu => exact ⟨_, .set hk (h1.trans h) rfl⟩
theorem now_other {t : List File} {p : Prim} {n : Str} (h : n ∉ namesP p) : now p t n = tget t n := by
  unfold now
  unfold namesP at h
  grind
theorem now_congr {t s : List File} {p : Prim} {n : Str} (hc : ∀ n, n ∈ namesP p → tget s n = tget t n) (h : n ∈ namesP p) : now p s n = now p t n := by
  have h1 : tget s p.name = tget t p.name := hc _ (by unfold namesP; split <;> simp)
  have h2 := hc n h
  unfold now
  unfold namesP at h
  grind
def edit (k : Int) (g : Hunk) (l : List Str) : Option (List Str) := if k = 3 then (if (applyH l g).2 = 0 then some (applyH l g).1 else none) else if l = g.old then some g.new else none
theorem does_lines {t u : List File} {p : Prim} (hk : p.kind = 3 ∨ p.kind = 4) : Does t p u ↔ ∃ l l', tget t p.name = some l ∧ edit p.kind p.h l = some l' ∧ u = insT t p.name l' := by
  constructor
  · intro h
    cases h with
    | add hk' h hu => omega
    | rm hk' h hu => omega
    | move l hk' h h2 hne hu => omega
    | patch l hk' h h0 hu => exact ⟨l, _, h, by rw [edit, if_pos hk', if_pos h0], hu⟩
    | set hk' h hu => exact ⟨_, _, h, by rw [edit, if_neg (by omega), if_pos rfl], hu⟩
  · rintro ⟨l, l', h, he, hu⟩
    unfold edit at he
    split at he
    · rename_i hk'
      split at he
      · rename_i h0
        simp only [Option.some.injEq] at he
        subst he
        exact .patch l hk' h h0 hu
      · simp at he
    · split at he
      · rename_i h0
        simp only [Option.some.injEq] at he
        subst he h0
        exact .set (by omega) h hu
      · simp at he
theorem does_move {t u : List File} {p : Prim} (hk : p.kind = 2) : Does t p u ↔ ∃ l, tget t p.name = some l ∧ tget t p.to = none ∧ p.name ≠ p.to ∧ u = insT (delT p.name t) p.to l := by
  constructor
  · intro h
    cases h with
    | add hk' h hu => omega
    | rm hk' h hu => omega
    | move l hk' h h2 hne hu => exact ⟨l, h, h2, hne, hu⟩
    | patch l hk' h h0 hu => omega
    | set hk' h hu => omega
  · rintro ⟨l, h, h2, hne, hu⟩
    exact .move l hk h h2 hne hu
theorem append_split {A B C D : List Str} (h : A ++ B = C ++ D) (hl : A.length ≤ C.length) : ∃ M, C = A ++ M ∧ B = M ++ D := by
  rw [List.append_eq_append_iff] at h
  rcases h with ⟨a, h1, h2⟩ | ⟨a, h1, h2⟩
  · exact ⟨a, h1, h2⟩
  · subst h1
    have : a = [] := List.eq_nil_of_length_eq_zero (by simp at hl; omega)
    subst this
    exact ⟨[], by simp, by simpa using h2.symm⟩
theorem applyH_pass {l : List Str} {p q x y : Hunk} (h1 : (applyH l p).2 = 0) (h2 : (applyH (applyH l p).1 q).2 = 0) (h : PassesH p q x y) : (applyH l x).2 = 0 ∧ applyH (applyH l x).1 y = applyH (applyH l p).1 q := by
  have hok := passH_ok h
  obtain ⟨o1, A, B, e1, e2, e3⟩ := applyH_parts h1
  rw [e3] at h2 ⊢
  obtain ⟨o2, C, D, f1, f2, f3⟩ := applyH_parts h2
  simp only at f1 f3 ⊢
  rw [f3]
  cases h with
  | behind hp hq h hm hx hy =>
    rw [List.append_assoc C] at f1
    obtain ⟨M, g1, g2⟩ := append_split f1 (by simp; omega)
    have a1 := applyH_of (l := l) (h := x) (pre := A ++ p.old ++ M) (post := D) hok.1 (by rw [e1, g2, hx]; simp [moved]) (by subst g1; rw [hx]; simp only [moved, byH]; simp at f2 ⊢; omega)
    rw [a1]
    refine ⟨rfl, ?_⟩
    rw [applyH_of (h := y) (pre := A) (post := M ++ x.new ++ D) hok.2 (by rw [hy]; simp) (by rw [hy]; exact e2), hy, hx, g1]
    simp [moved]
  | ahead hp hq h hm hx hy =>
    rw [List.append_assoc A] at f1
    obtain ⟨M, g1, g2⟩ := append_split f1.symm (by simp; omega)
    have a1 := applyH_of (l := l) (h := x) (pre := C) (post := M ++ p.old ++ B) hok.1 (by rw [e1, g1, hx]; simp) (by rw [hx]; exact f2)
    rw [a1]
    refine ⟨rfl, ?_⟩
    rw [applyH_of (h := y) (pre := C ++ x.new ++ M) (post := B) hok.2 (by rw [hy]; simp [moved]) (by rw [hy, hx]; subst g1; simp only [moved, byH]; simp at e2 ⊢; omega), hy, hx, g2]
    simp [moved]
theorem edit_pass {l l1 l2 : List Str} {p q x y : Hunk} (h1 : edit 3 p l = some l1) (h2 : edit 3 q l1 = some l2) (h : PassesH p q x y) : ∃ l3, edit 3 x l = some l3 ∧ edit 3 y l3 = some l2 := by
  unfold edit at *
  simp only [if_true] at *
  split at h1
  · rename_i e1
    simp only [Option.some.injEq] at h1
    subst h1
    split at h2
    · rename_i e2
      obtain ⟨a, b⟩ := applyH_pass e1 e2 h
      refine ⟨(applyH l x).1, by rw [if_pos a], ?_⟩
      rw [b, if_pos e2]
      exact h2
    · simp at h2
  · simp at h1
theorem passes_does {t u v : List File} {p q x y : Prim} (hs : Srt t) (h1 : Does t p u) (h2 : Does u q v) (h : PassesP p q x y) : ∃ w, Does t x w ∧ Does w y v := by
  have su := does_srt hs h1
  have sv := does_srt su h2
  have n1 := does_now hs h1
  have n2 := does_now su h2
  cases h with
  | apart ha hx hy =>
    rw [hx, hy]
    have ha' := apart_iff.1 ha
    have c1 : ∀ n, n ∈ namesP q → tget t n = tget u n := fun n hn => by rw [n1, now_other (ha' n hn)]
    obtain ⟨w, hw⟩ := does_copy h2 c1
    have sw := does_srt hs hw
    have n3 := does_now hs hw
    have c2 : ∀ n, n ∈ namesP p → tget w n = tget t n := fun n hn => by rw [n3, now_other (fun h => ha' n h hn)]
    obtain ⟨z, hz⟩ := does_copy h1 c2
    have sz := does_srt sw hz
    have n4 := does_now sw hz
    have e : z = v := srt_ext sz sv fun n => by
      rw [n4, n2]
      by_cases a : n ∈ namesP p
      · rw [now_congr c2 a, ← n1, now_other (fun h => ha' n h a)]
      · rw [now_other a, n3]
        by_cases b : n ∈ namesP q
        · rw [now_congr c1 b]
        · rw [now_other b, now_other b, n1, now_other a]
    exact ⟨w, hw, by rw [← e]; exact hz⟩
  | patch a b hn hk hk2 h hx hy =>
    obtain ⟨l, l1, g1, g2, g3⟩ := (does_lines (.inl hk)).1 h1
    obtain ⟨l', l2, k1, k2, k3⟩ := (does_lines (.inl hk2)).1 h2
    rw [g3, tget_insT hs, if_pos hn] at k1
    simp only [Option.some.injEq] at k1
    subst k1
    rw [hk] at g2
    rw [hk2] at k2
    obtain ⟨l3, m1, m2⟩ := edit_pass g2 k2 h
    refine ⟨insT t q.name l3, (does_lines (by rw [hx]; exact .inl hk2)).2 ⟨l, l3, ?_, ?_, ?_⟩, (does_lines (by rw [hy]; exact .inl hk)).2 ⟨l3, l2, ?_, ?_, ?_⟩⟩
    · rw [hx, ← hn]; exact g1
    · rw [hx]; simp only; rw [hk2]; exact m1
    · rw [hx]
    · rw [hy, tget_insT hs, if_pos hn.symm]
    · rw [hy]; simp only; rw [hk]; exact m2
    · rw [hy, k3, g3, hn]
      refine srt_ext (insT_srt (insT_srt hs _ _) _ _) (insT_srt (insT_srt hs _ _) _ _) fun n => ?_
      simp only [tget_insT (insT_srt hs _ _), tget_insT hs]
      split <;> rfl
  | after hk hl hn hx hy =>
    obtain ⟨l, g1, g2, g3, g4⟩ := (does_move hk).1 h1
    obtain ⟨l', l2, k1, k2, k3⟩ := (does_lines hl).1 h2
    rw [g4, tget_insT (delT_srt hs _), if_pos hn.symm] at k1
    simp only [Option.some.injEq] at k1
    subst k1
    refine ⟨insT t p.name l2, (does_lines (by rw [hx]; exact hl)).2 ⟨l, l2, ?_, ?_, ?_⟩, ?_⟩
    · rw [hx]; exact g1
    · rw [hx]; exact k2
    · rw [hx]
    · rw [hy]
      refine (does_move hk).2 ⟨l2, ?_, ?_, g3, ?_⟩
      · rw [tget_insT hs, if_pos rfl]
      · rw [tget_insT hs, if_neg g3]; exact g2
      · rw [k3, g4, hn]
        refine srt_ext (insT_srt (insT_srt (delT_srt hs _) _ _) _ _) (insT_srt (delT_srt (insT_srt hs _ _) _) _ _) fun n => ?_
        rw [tget_insT (insT_srt (delT_srt hs _) _ _), tget_insT (delT_srt hs _), tget_delT hs, tget_insT (delT_srt (insT_srt hs _ _) _), tget_delT (insT_srt hs _ _), tget_insT hs]
        grind
  | before hk hl hn hx hy =>
    obtain ⟨l, l1, g1, g2, g3⟩ := (does_lines hl).1 h1
    obtain ⟨l', k1, k2, k3, k4⟩ := (does_move hk).1 h2
    rw [g3, tget_insT hs, if_pos hn] at k1
    simp only [Option.some.injEq] at k1
    subst k1
    have k2' : tget t q.to = none := by rw [g3, tget_insT hs, if_neg (by rw [hn]; exact k3)] at k2; exact k2
    refine ⟨insT (delT q.name t) q.to l, ?_, (does_lines (by rw [hy]; exact hl)).2 ⟨l, l1, ?_, ?_, ?_⟩⟩
    · rw [hx]
      exact (does_move hk).2 ⟨l, by rw [← hn]; exact g1, k2', k3, rfl⟩
    · rw [hy, tget_insT (delT_srt hs _), if_pos rfl]
    · rw [hy]; exact g2
    · rw [hy, k4, g3]
      refine srt_ext (insT_srt (delT_srt (insT_srt hs _ _) _) _ _) (insT_srt (insT_srt (delT_srt hs _) _ _) _ _) fun n => ?_
      rw [tget_insT (insT_srt (delT_srt hs _) _ _), tget_insT (delT_srt hs _), tget_delT hs, tget_insT (delT_srt (insT_srt hs _ _) _), tget_delT (insT_srt hs _ _), tget_insT hs]
      grind
theorem pass_same {t : List File} {p q x y : Prim} (hs : Srt t) (h1 : (applyP t p).2 = 0) (h2 : (applyP (applyP t p).1 q).2 = 0) (h : passP p q = some (x, y)) : (applyP t x).2 = 0 ∧ (applyP (applyP t x).1 y) = ((applyP (applyP t p).1 q).1, 0) := by
  have hm := pass_may h
  obtain ⟨_, d1⟩ := apply_does hs h1
  obtain ⟨_, d2⟩ := apply_does (apply_srt hs h1) h2
  obtain ⟨w, w1, w2⟩ := passes_does hs d1 d2 (passP_iff.1 h).2.2
  have e1 := does_apply hs hm.1 w1
  rw [e1]
  exact ⟨rfl, does_apply (does_srt hs w1) hm.2 w2⟩

/-! ### Three -/
theorem passesH_at {p q x y : Hunk} (h : PassesH p q x y) : x.old = q.old ∧ x.new = q.new ∧ y.old = p.old ∧ y.new = p.new ∧ ((q.at_ > p.at_ + p.new.length ∧ x.at_ = q.at_ - p.new.length + p.old.length ∧ y.at_ = p.at_) ∨ (p.at_ > q.at_ + q.old.length ∧ x.at_ = q.at_ ∧ y.at_ = p.at_ + q.new.length - q.old.length)) := by
  cases h with
  | behind hp hq h hm hx hy => subst hx hy; refine ⟨rfl, rfl, rfl, rfl, .inl ⟨h, ?_, rfl⟩⟩; simp only [moved, byH]; omega
  | ahead hp hq h hm hx hy => subst hx hy; refine ⟨rfl, rfl, rfl, rfl, .inr ⟨h, rfl, ?_⟩⟩; simp only [moved, byH]; omega
theorem threeH {p q r q1 p1 r1 p2 r2 q2 r3 q3 r4 p3 q4 p4 : Hunk} (a : PassesH p q q1 p1) (b : PassesH p1 r r1 p2) (c : PassesH q1 r1 r2 q2) (d : PassesH q r r3 q3) (e : PassesH p r3 r4 p3) (f : PassesH p3 q3 q4 p4) : r2 = r4 ∧ q2 = q4 := by
  obtain ⟨a1, a2, a3, a4, a5⟩ := passesH_at a
  obtain ⟨b1, b2, b3, b4, b5⟩ := passesH_at b
  obtain ⟨c1, c2, c3, c4, c5⟩ := passesH_at c
  obtain ⟨d1, d2, d3, d4, d5⟩ := passesH_at d
  obtain ⟨e1, e2, e3, e4, e5⟩ := passesH_at e
  obtain ⟨f1, f2, f3, f4, f5⟩ := passesH_at f
  have k : ∀ {x y : Hunk}, x.at_ = y.at_ → x.old = y.old → x.new = y.new → x = y := fun {x y} h1 h2 h3 => by cases x; cases y; simp_all
  have o1 : r2.old = r4.old := by rw [c1, b1, e1, d1]
  have o2 : r2.new = r4.new := by rw [c2, b2, e2, d2]
  have o3 : q2.old = q4.old := by rw [c3, a1, f1, d3]
  have o4 : q2.new = q4.new := by rw [c4, a2, f2, d4]
  simp only [a1, a2, a3, a4, b1, b2, b3, b4, c1, c2, c3, c4, d1, d2, d3, d4, e1, e2, e3, e4, f1, f2, f3, f4] at a5 b5 c5 d5 e5 f5
  have : r2.at_ = r4.at_ ∧ q2.at_ = q4.at_ := by
    rcases a5 with ⟨a5, a6, a7⟩ | ⟨a5, a6, a7⟩ <;> rcases b5 with ⟨b5, b6, b7⟩ | ⟨b5, b6, b7⟩ <;> rcases d5 with ⟨d5, d6, d7⟩ | ⟨d5, d6, d7⟩ <;> rcases e5 with ⟨e5, e6, e7⟩ | ⟨e5, e6, e7⟩ <;> first | omega | (rcases c5 with ⟨c5, c6, c7⟩ | ⟨c5, c6, c7⟩ <;> rcases f5 with ⟨f5, f6, f7⟩ | ⟨f5, f6, f7⟩ <;> omega)
  exact ⟨k this.1 o1 o2, k this.2 o3 o4⟩
theorem passesH_det {p q x y x' y' : Hunk} (h : PassesH p q x y) (h' : PassesH p q x' y') : x = x' ∧ y = y' := by
  have a := passH_iff.2 h
  have b := passH_iff.2 h'
  rw [a] at b
  simpa using b
structure Facts (p q x y : Prim) : Prop where
  xk : x.kind = q.kind
  xt : x.to = q.to
  yk : y.kind = p.kind
  yt : y.to = p.to
  f : (p.name ≠ q.name ∧ (p.kind = 2 → p.to ≠ q.name) ∧ (q.kind = 2 → p.name ≠ q.to) ∧ (p.kind = 2 → q.kind = 2 → p.to ≠ q.to) ∧ x.name = q.name ∧ y.name = p.name ∧ x.h = q.h ∧ y.h = p.h) ∨
    (p.name = q.name ∧ p.kind = 3 ∧ q.kind = 3 ∧ x.name = q.name ∧ y.name = p.name ∧ PassesH p.h q.h x.h y.h) ∨
    (p.kind = 2 ∧ (q.kind = 3 ∨ q.kind = 4) ∧ q.name = p.to ∧ x.name = p.name ∧ y.name = p.name ∧ x.h = q.h ∧ y.h = p.h) ∨
    (q.kind = 2 ∧ (p.kind = 3 ∨ p.kind = 4) ∧ p.name = q.name ∧ x.name = q.name ∧ y.name = q.to ∧ x.h = q.h ∧ y.h = p.h)
theorem passes_facts {p q x y : Prim} (h : PassesP p q x y) : Facts p q x y := by
  cases h with
  | apart ha hx hy =>
    obtain ⟨a1, a2, a3, a4⟩ := apart_all.1 ha
    exact ⟨by rw [hx], by rw [hx], by rw [hy], by rw [hy], .inl ⟨a1, a2, a3, a4, by rw [hx], by rw [hy], by rw [hx], by rw [hy]⟩⟩
  | patch a b hn hk hk2 hh hx hy => exact ⟨by rw [hx], by rw [hx], by rw [hy], by rw [hy], .inr (.inl ⟨hn, hk, hk2, by rw [hx], by rw [hy], by rw [hx, hy]; exact hh⟩)⟩
  | after hk hl hn hx hy => exact ⟨by rw [hx], by rw [hx], by rw [hy], by rw [hy], .inr (.inr (.inl ⟨hk, hl, hn, by rw [hx], by rw [hy], by rw [hx], by rw [hy]⟩))⟩
  | before hk hl hn hx hy => exact ⟨by rw [hx], by rw [hx], by rw [hy], by rw [hy], .inr (.inr (.inr ⟨hk, hl, hn, by rw [hx], by rw [hy], by rw [hx], by rw [hy]⟩))⟩
theorem prim_ext {x y : Prim} (h1 : x.kind = y.kind) (h2 : x.name = y.name) (h3 : x.to = y.to) (h4 : x.h = y.h) : x = y := by
  cases x; cases y; simp_all
theorem threeP {p q r q1 p1 r1 p2 r2 q2 r3 q3 r4 p3 q4 p4 : Prim} (a : PassesP p q q1 p1) (b : PassesP p1 r r1 p2) (c : PassesP q1 r1 r2 q2) (d : PassesP q r r3 q3) (e : PassesP p r3 r4 p3) (f : PassesP p3 q3 q4 p4) : r2 = r4 ∧ q2 = q4 := by
  obtain ⟨ak, at', ak', at'', a⟩ := passes_facts a
  obtain ⟨bk, bt, bk', bt', b⟩ := passes_facts b
  obtain ⟨ck, ct, ck', ct', c⟩ := passes_facts c
  obtain ⟨dk, dt, dk', dt', d⟩ := passes_facts d
  obtain ⟨ek, et, ek', et', e⟩ := passes_facts e
  obtain ⟨fk, ft, fk', ft', f⟩ := passes_facts f
  have k1 : r2.kind = r4.kind := by rw [ck, bk, ek, dk]
  have k2 : q2.kind = q4.kind := by rw [ck', ak, fk, dk']
  have t1 : r2.to = r4.to := by rw [ct, bt, et, dt]
  have t2 : q2.to = q4.to := by rw [ct', at', ft, dt']
  have n : r2.name = r4.name ∧ q2.name = q4.name := by
    clear k1 k2 t1 t2
    constructor
    · grind (splits := 60)
    · grind (splits := 60)
  have h : r2.h = r4.h ∧ q2.h = q4.h := by
    by_cases z : p.kind = 3 ∧ q.kind = 3 ∧ r.kind = 3 ∧ p.name = q.name ∧ q.name = r.name
    · obtain ⟨z1, z2, z3, z4, z5⟩ := z
      have A : PassesH p.h q.h q1.h p1.h := by grind (splits := 60)
      have B : PassesH p1.h r.h r1.h p2.h := by grind (splits := 60)
      have C : PassesH q1.h r1.h r2.h q2.h := by grind (splits := 60)
      have D : PassesH q.h r.h r3.h q3.h := by grind (splits := 60)
      have E : PassesH p.h r3.h r4.h p3.h := by grind (splits := 60)
      have F : PassesH p3.h q3.h q4.h p4.h := by grind (splits := 60)
      exact threeH A B C D E F
    · clear k1 k2 t1 t2 n
      constructor
      · grind (splits := 60) [passesH_det]
      · grind (splits := 60) [passesH_det]
  exact ⟨prim_ext k1 n.1 t1 h.1, prim_ext k2 n.2 t2 h.2⟩
theorem pass_three {p q r q1 p1 r1 p2 r2 q2 r3 q3 r4 p3 q4 p4 : Prim} (a : passP p q = some (q1, p1)) (b : passP p1 r = some (r1, p2)) (c : passP q1 r1 = some (r2, q2)) (d : passP q r = some (r3, q3)) (e : passP p r3 = some (r4, p3)) (f : passP p3 q3 = some (q4, p4)) : r2 = r4 ∧ q2 = q4 ∧ p2 = p4 := by
  obtain ⟨h1, h2⟩ := threeP (passP_iff.1 a).2.2 (passP_iff.1 b).2.2 (passP_iff.1 c).2.2 (passP_iff.1 d).2.2 (passP_iff.1 e).2.2 (passP_iff.1 f).2.2
  obtain ⟨g1, g2⟩ := threeP (passP_iff.1 (pass_turn d)).2.2 (passP_iff.1 (pass_turn e)).2.2 (passP_iff.1 (pass_turn f)).2.2 (passP_iff.1 (pass_turn a)).2.2 (passP_iff.1 (pass_turn b)).2.2 (passP_iff.1 (pass_turn c)).2.2
  refine ⟨h1, h2, ?_⟩
  have := congrArg turnP g1
  rw [turnP_turnP, turnP_turnP] at this
  exact this.symm
theorem pass_never {p q : Prim} (h : p.name = q.name) (hk : p.kind ≤ 2 ∧ q.kind ≤ 2 ∨ p.kind = 4 ∧ q.kind ≥ 3 ∨ q.kind = 4 ∧ p.kind ≥ 3) : passP p q = none := by
  cases hp : passP p q with
  | none => rfl
  | some r =>
    exfalso
    have h' := (passP_iff (x := r.1) (y := r.2)).1 hp
    cases h'.2.2 with
    | apart ha hx hy => have := apart_all.1 ha; exact this.1 h
    | patch a b hn hk hk2 hh hx hy => omega
    | after hk hl hn hx hy => have := may_ne h'.1 hk; exact this (h.trans hn)
    | before hk hl hn hx hy => omega
theorem pass_apart {p q : Prim} (h1 : mayP p = true) (h2 : mayP q = true) (n1 : p.name ≠ q.name) (n2 : p.name ≠ q.to) (n3 : p.to ≠ q.name) (n4 : p.to = q.to → p.to = ⟨#[]⟩) : passP p q = some (q, p) := by
  refine passP_iff.2 ⟨h1, h2, .apart (apart_all.2 ⟨n1, fun _ => n3, fun _ => n2, fun hk _ hz => ?_⟩) rfl rfl⟩
  have := may_to h1 hk
  rw [n4 hz] at this
  revert this
  decide
theorem pass_kinds {p q x y : Prim} (h : passP p q = some (x, y)) : x.kind = q.kind ∧ x.to = q.to ∧ x.h.old = q.h.old ∧ x.h.new = q.h.new ∧ y.kind = p.kind ∧ y.to = p.to ∧ y.h.old = p.h.old ∧ y.h.new = p.h.new := by
  have h' := (passP_iff.1 h).2.2
  cases h' with
  | patch a b hn hk hk2 hh hx hy => obtain ⟨a1, a2, a3, a4, _⟩ := passesH_at hh; rw [hx, hy]; exact ⟨rfl, rfl, a1, a2, rfl, rfl, a3, a4⟩
  | _ => grind
end Go.Qm

/- Changes, one behind the other: plain laws. -/
namespace Go.Qm
open Go.RowKit Go.Vam
set_option linter.unusedSimpArgs false
set_option linter.unusedVariables false

/-! ### A tree, changed by a list -/
def runL (t : List File) : List Prim → List File × Int
  | [] => (t, 0)
  | p :: l => if (applyP t p).2 = 0 then runL (applyP t p).1 l else ([], (applyP t p).2)
theorem runL_append (t : List File) (a b : List Prim) : runL t (a ++ b) = if (runL t a).2 = 0 then runL (runL t a).1 b else ([], (runL t a).2) := by
  induction a generalizing t with
  | nil => simp [runL]
  | cons p a ih =>
    rw [List.cons_append, runL, runL]
    split
    · exact ih _
    · rename_i h; simp [h]
theorem runL_one (t : List File) (p : Prim) : runL t [p] = applyP t p := by
  rw [runL, runL]
  split
  · rename_i h; rw [← h]
  · rename_i h; rw [← apply_err h]
theorem runL_take {t : List File} {l : List Prim} {i : Nat} (h : i < l.length) (h0 : (runL t (l.take i)).2 = 0) : runL t (l.take (i + 1)) = applyP (runL t (l.take i)).1 l[i] := by
  rw [List.take_add_one, List.getElem?_eq_getElem h, Option.toList, runL_append, if_pos h0, runL_one]
theorem runL_err {t : List File} {l : List Prim} (h : (runL t l).2 ≠ 0) : (runL t l).1 = [] := by
  induction l generalizing t with
  | nil => simp [runL] at h
  | cons p l ih =>
    rw [runL] at h ⊢
    split
    · rename_i h0
      rw [if_pos h0] at h
      exact ih h
    · rfl
theorem runL_stop {t : List File} {l : List Prim} {i : Nat} (h0 : (runL t (l.take i)).2 ≠ 0) : runL t l = ([], (runL t (l.take i)).2) := by
  conv => lhs; rw [← List.take_append_drop i l]
  rw [runL_append, if_neg h0]
theorem runL_srt {t : List File} {l : List Prim} (hs : Srt t) (h : (runL t l).2 = 0) : Srt (runL t l).1 := by
  induction l generalizing t with
  | nil => exact hs
  | cons p l ih =>
    rw [runL] at h ⊢
    split at h
    · rename_i h0
      rw [if_pos h0]
      exact ih (apply_srt hs h0) h
    · rename_i h0; exact absurd h h0
theorem runL_N {t : List File} {l : List Prim} {a b : Nat} (h : treeN a b t) (hR : ∀ p ∈ l, primR p) : treeN (a + l.length) (b + 200 * l.length) (runL t l).1 := by
  induction l generalizing t a b with
  | nil => exact h
  | cons p l ih =>
    rw [runL]
    split
    · exact (ih (apply_N h (hR p (by simp))) (fun q hq => hR q (by simp [hq]))).mono (by simp; omega) (by simp; omega)
    · exact ⟨by simp, by simp⟩
theorem runL_ok {t : List File} {a b : List Prim} : (runL t (a ++ b)).2 = 0 ↔ (runL t a).2 = 0 ∧ (runL (runL t a).1 b).2 = 0 := by
  rw [runL_append]
  split
  · rename_i h; simp [h]
  · rename_i h; simp [h]
theorem runL_app {t : List File} {a b : List Prim} (h : (runL t a).2 = 0) : runL t (a ++ b) = runL (runL t a).1 b := by rw [runL_append, if_pos h]
/-- Tidied, a list does the same. -/
theorem run_tidy {t : List File} (hs : Srt t) : ∀ n : Nat, ∀ l : List Prim, l.length = n → (runL t l).2 = 0 → runL t (tidyL l) = runL t l
  | 0, l, hn, _ => by rw [List.eq_nil_of_length_eq_zero hn]; rfl
  | n + 1, l, hn, h => by
    have hne : l ≠ [] := fun e => by subst e; simp at hn
    obtain ⟨l', p, rfl⟩ : ∃ l' p, l = l' ++ [p] := ⟨l.dropLast, l.getLast hne, (List.dropLast_concat_getLast hne).symm⟩
    have hl' : l'.length = n := by simp at hn; omega
    obtain ⟨h1, h2⟩ := runL_ok.1 h
    have ih := run_tidy hs n l' hl' h1
    have e1 : tidyL (l' ++ [p]) = tidyStep (tidyL l') p := by simp [tidyL]
    rw [runL_one] at h2
    rw [e1, runL_app h1, runL_one]
    have hs' := runL_srt hs h1
    unfold tidyStep
    split
    · rename_i hi
      rw [ih]
      have := apply_idle hs' h2 hi
      rw [← Prod.eta (runL t l'), ← Prod.eta (applyP _ p), this, h1, h2]
    · split
      · rename_i q hq
        split
        · rename_i hp
          have hpq : p = turnP q := primEq_iff.1 hp
          obtain ⟨s, hs2⟩ := List.getLast?_eq_some_iff.1 hq
          rw [hs2] at ih ⊢
          have h3 : (runL t (s ++ [q])).2 = 0 := by rw [ih]; exact h1
          obtain ⟨h4, h5⟩ := runL_ok.1 h3
          rw [runL_app h4, runL_one] at ih
          rw [runL_one] at h5
          rw [List.dropLast_concat, ← ih, hpq, apply_back (runL_srt hs h4) h5, ← h4]
        · rw [runL_append, ih, if_pos h1, runL_one]
      · rw [runL_append, ih, if_pos h1, runL_one]

/-! ### Lists that pass one another -/
def passOne : List Prim → Prim → Option (Prim × List Prim)
  | [], q => some (q, [])
  | p :: l, q => match passOne l q with
    | none => none
    | some (x, l') => match passP p x with
      | none => none
      | some (y, p') => some (y, p' :: l')
def passL (a : List Prim) : List Prim → Option (List Prim × List Prim)
  | [] => some ([], a)
  | q :: b => match passOne a q with
    | none => none
    | some (x, a') => match passL a' b with
      | none => none
      | some (f, a'') => some (x :: f, a'')
theorem passOne_cons {p : Prim} {l : List Prim} {q y : Prim} {m : List Prim} : passOne (p :: l) q = some (y, m) ↔ ∃ x p' l', passOne l q = some (x, l') ∧ passP p x = some (y, p') ∧ m = p' :: l' := by
  rw [passOne]
  constructor
  · intro h
    split at h
    · simp at h
    · rename_i x l' h1
      split at h
      · simp at h
      · rename_i y' p' h2
        simp only [Option.some.injEq, Prod.mk.injEq] at h
        exact ⟨x, p', l', h1, by rw [h2, h.1], h.2.symm⟩
  · rintro ⟨x, p', l', h1, h2, rfl⟩
    rw [h1]
    simp only
    rw [h2]
theorem passL_cons {a : List Prim} {q : Prim} {b f m : List Prim} : passL a (q :: b) = some (f, m) ↔ ∃ x a' f', passOne a q = some (x, a') ∧ passL a' b = some (f', m) ∧ f = x :: f' := by
  rw [passL]
  constructor
  · intro h
    split at h
    · simp at h
    · rename_i x a' h1
      split at h
      · simp at h
      · rename_i f' a'' h2
        simp only [Option.some.injEq, Prod.mk.injEq] at h
        exact ⟨x, a', f', h1, by rw [h2, h.2], h.1.symm⟩
  · rintro ⟨x, a', f', h1, h2, rfl⟩
    rw [h1]
    simp only
    rw [h2]
theorem passOne_len {l : List Prim} {q y : Prim} {m : List Prim} (h : passOne l q = some (y, m)) : m.length = l.length := by
  induction l generalizing y m with
  | nil => simp [passOne] at h; rw [← h.2]
  | cons p l ih =>
    obtain ⟨x, p', l', h1, h2, rfl⟩ := passOne_cons.1 h
    simp [ih h1]
theorem passL_len {a b f m : List Prim} (h : passL a b = some (f, m)) : f.length = b.length ∧ m.length = a.length := by
  induction b generalizing a f with
  | nil => simp [passL] at h; obtain ⟨rfl, rfl⟩ := h; exact ⟨rfl, rfl⟩
  | cons q b ih =>
    obtain ⟨x, a', f', h1, h2, rfl⟩ := passL_cons.1 h
    have := ih h2
    have := passOne_len h1
    simp; omega
theorem passL_nil (b : List Prim) : passL [] b = some (b, []) := by
  induction b with
  | nil => rfl
  | cons q b ih => exact passL_cons.2 ⟨q, [], b, rfl, ih, rfl⟩
/-- One behind the other, of those that pass. -/
theorem passOne_append {a d : List Prim} {q y : Prim} {m : List Prim} : passOne (a ++ d) q = some (y, m) ↔ ∃ x d' a', passOne d q = some (x, d') ∧ passOne a x = some (y, a') ∧ m = a' ++ d' := by
  induction a generalizing y m with
  | nil =>
    constructor
    · intro h; exact ⟨y, m, [], h, rfl, rfl⟩
    · rintro ⟨x, d', a', h1, h2, rfl⟩
      simp only [passOne, Option.some.injEq, Prod.mk.injEq] at h2
      obtain ⟨rfl, rfl⟩ := h2
      exact h1
  | cons p a ih =>
    rw [List.cons_append, passOne_cons]
    constructor
    · rintro ⟨x, p', l', h1, h2, rfl⟩
      obtain ⟨x', d', a', h3, h4, rfl⟩ := ih.1 h1
      exact ⟨x', d', p' :: a', h3, passOne_cons.2 ⟨x, p', a', h4, h2, rfl⟩, rfl⟩
    · rintro ⟨x, d', a', h1, h2, rfl⟩
      obtain ⟨x', p', a'', h3, h4, rfl⟩ := passOne_cons.1 h2
      exact ⟨x', p', a'' ++ d', ih.2 ⟨x, d', a'', h1, h3, rfl⟩, h4, rfl⟩
theorem passL_right {a b c f m : List Prim} : passL a (b ++ c) = some (f, m) ↔ ∃ b' c' a', passL a b = some (b', a') ∧ passL a' c = some (c', m) ∧ f = b' ++ c' := by
  induction b generalizing a f with
  | nil =>
    constructor
    · intro h; exact ⟨[], f, a, rfl, h, rfl⟩
    · rintro ⟨b', c', a', h1, h2, rfl⟩
      simp only [passL, Option.some.injEq, Prod.mk.injEq] at h1
      obtain ⟨rfl, rfl⟩ := h1
      exact h2
  | cons q b ih =>
    rw [List.cons_append, passL_cons]
    constructor
    · rintro ⟨x, a', f', h1, h2, rfl⟩
      obtain ⟨b', c', a'', h3, h4, rfl⟩ := ih.1 h2
      exact ⟨x :: b', c', a'', passL_cons.2 ⟨x, a', b', h1, h3, rfl⟩, h4, rfl⟩
    · rintro ⟨b', c', a', h1, h2, rfl⟩
      obtain ⟨x, a'', f', h3, h4, rfl⟩ := passL_cons.1 h1
      exact ⟨x, a'', f' ++ c', h3, ih.2 ⟨f', c', a', h4, h2, rfl⟩, rfl⟩
theorem passL_left {a d b f m : List Prim} : passL (a ++ d) b = some (f, m) ↔ ∃ b' d' a', passL d b = some (b', d') ∧ passL a b' = some (f, a') ∧ m = a' ++ d' := by
  induction b generalizing a d f with
  | nil =>
    simp only [passL, Option.some.injEq, Prod.mk.injEq]
    constructor
    · rintro ⟨rfl, rfl⟩
      exact ⟨[], d, a, ⟨rfl, rfl⟩, by simp [passL], rfl⟩
    · rintro ⟨b', d', a', ⟨rfl, rfl⟩, h2, rfl⟩
      simp only [passL, Option.some.injEq, Prod.mk.injEq] at h2
      obtain ⟨rfl, rfl⟩ := h2
      exact ⟨rfl, rfl⟩
  | cons q b ih =>
    rw [passL_cons]
    constructor
    · rintro ⟨x, l, f', h1, h2, rfl⟩
      obtain ⟨y, d1, a1, h3, h4, rfl⟩ := passOne_append.1 h1
      obtain ⟨b', d', a', h5, h6, rfl⟩ := ih.1 h2
      exact ⟨y :: b', d', a', passL_cons.2 ⟨y, d1, b', h3, h5, rfl⟩, passL_cons.2 ⟨x, a1, f', h4, h6, rfl⟩, rfl⟩
    · rintro ⟨b', d', a', h1, h2, rfl⟩
      obtain ⟨y, d1, b1, h3, h4, rfl⟩ := passL_cons.1 h1
      obtain ⟨x, a1, f', h5, h6, rfl⟩ := passL_cons.1 h2
      exact ⟨x, a1 ++ d1, f', passOne_append.2 ⟨y, d1, a1, h3, h5, rfl⟩, ih.2 ⟨b1, d', a', h4, h6, rfl⟩, rfl⟩
theorem passOne_fail {m : List Prim} {q x : Prim} {l' : List Prim} {j : Nat} (hj : j < m.length) (h : passOne (m.drop (j + 1)) q = some (x, l')) (hp : passP m[j] x = none) : passOne m q = none := by
  cases hm : passOne m q with
  | none => rfl
  | some r =>
    exfalso
    rw [← List.take_append_drop j m] at hm
    obtain ⟨y, d', a', h1, h2, h3⟩ := passOne_append.1 (show _ = some (r.1, r.2) from hm)
    rw [List.drop_eq_getElem_cons hj] at h1
    obtain ⟨z, p', l'', g1, g2, g3⟩ := passOne_cons.1 h1
    rw [h] at g1
    simp only [Option.some.injEq, Prod.mk.injEq] at g1
    obtain ⟨rfl, rfl⟩ := g1
    rw [hp] at g2
    simp at g2
theorem passOne_step {m : List Prim} {q x : Prim} {l' : List Prim} {j : Nat} (hj : j < m.length) (h : passOne (m.drop (j + 1)) q = some (x, l')) {y p' : Prim} (hp : passP m[j] x = some (y, p')) : passOne (m.drop j) q = some (y, p' :: l') := by
  rw [List.drop_eq_getElem_cons hj]
  exact passOne_cons.2 ⟨x, p', l', h, hp, rfl⟩
theorem passL_fail {a b f m : List Prim} {i : Nat} (hi : i < b.length) (h : passL a (b.take i) = some (f, m)) (hp : passOne m b[i] = none) : passL a b = none := by
  cases hm : passL a b with
  | none => rfl
  | some r =>
    exfalso
    rw [← List.take_append_drop i b] at hm
    obtain ⟨b', c', a', h1, h2, h3⟩ := passL_right.1 (show _ = some (r.1, r.2) from hm)
    rw [h] at h1
    simp only [Option.some.injEq, Prod.mk.injEq] at h1
    obtain ⟨rfl, rfl⟩ := h1
    rw [List.drop_eq_getElem_cons hi] at h2
    obtain ⟨x, a'', f', g1, g2, g3⟩ := passL_cons.1 h2
    rw [hp] at g1
    simp at g1
theorem passL_step {a b f m : List Prim} {i : Nat} (hi : i < b.length) (h : passL a (b.take i) = some (f, m)) {x : Prim} {m' : List Prim} (hp : passOne m b[i] = some (x, m')) : passL a (b.take (i + 1)) = some (f ++ [x], m') := by
  rw [List.take_add_one, List.getElem?_eq_getElem hi]
  exact passL_right.2 ⟨f, [x], m, h, passL_cons.2 ⟨x, m', [], hp, rfl, rfl⟩, rfl⟩
theorem passL_one (p q : Prim) : passL [p] [q] = (passP p q).map fun r => ([r.1], [r.2]) := by
  cases h : passP p q with
  | none => simp [passL, passOne, h]
  | some r => simp [passL, passOne, h]
/-! ### Back -/
def atMost (n : Int) (l : List Prim) : Prop := ∀ p ∈ l, p.h.at_ ≤ n
theorem pass_at {p q x y : Prim} {m n : Int} (h : passP p q = some (x, y)) (h1 : p.h.at_ ≤ m) (h2 : q.h.at_ ≤ n) : x.h.at_ ≤ n + 200 ∧ y.h.at_ ≤ m + 200 := by
  cases (passP_iff.1 h).2.2 with
  | apart ha hx hy => rw [hx, hy]; omega
  | patch a b hn hk hk2 hh hx hy =>
    rw [hx, hy]
    cases hh with
    | behind hp hq h hm ha hb => have := hunkOk_len hp; have := hunkOk_len hq; rw [ha, hb]; simp only [moved, byH]; omega
    | ahead hp hq h hm ha hb => have := hunkOk_len hp; have := hunkOk_len hq; rw [ha, hb]; simp only [moved, byH]; omega
  | after hk hl hn hx hy => rw [hx, hy]; simp only; omega
  | before hk hl hn hx hy => rw [hx, hy]; simp only; omega
theorem passOne_back {l : List Prim} {q y : Prim} {l' : List Prim} {m n : Int} (h : passOne l q = some (y, l')) (h1 : atMost m l) (h2 : q.h.at_ ≤ n) (hm : m ≤ 1048376) (hn : n + 200 * l.length ≤ 1048376) :
    passL [y] l' = some (l, [q]) ∧ atMost (m + 200) l' ∧ y.h.at_ ≤ n + 200 * l.length := by
  induction l generalizing y l' with
  | nil =>
    simp only [passOne, Option.some.injEq, Prod.mk.injEq] at h
    obtain ⟨rfl, rfl⟩ := h
    exact ⟨rfl, by simp [atMost], by simpa using h2⟩
  | cons p l ih =>
    obtain ⟨x, p', l'', g1, g2, rfl⟩ := passOne_cons.1 h
    simp only [List.length_cons] at hn ⊢
    obtain ⟨i1, i2, i3⟩ := ih g1 (fun z hz => h1 z (by simp [hz])) (by omega)
    have hp := h1 p (by simp)
    obtain ⟨j1, j2⟩ := pass_at g2 hp i3
    have b := pass_back g2 (by omega) (by omega)
    refine ⟨passL_cons.2 ⟨p, [x], l, ?_, i1, rfl⟩, ?_, by omega⟩
    · exact passOne_cons.2 ⟨p', x, [], rfl, b, rfl⟩
    · intro z hz
      rcases List.mem_cons.1 hz with rfl | hz
      · exact j2
      · exact i2 z hz
theorem passL_back {a b f m : List Prim} {u v : Int} (h : passL a b = some (f, m)) (h1 : atMost u a) (h2 : atMost v b) (hu : u + 200 * b.length ≤ 1048376) (hv : v + 200 * a.length ≤ 1048376) : passL f m = some (a, b) := by
  induction b generalizing a f u with
  | nil =>
    simp only [passL, Option.some.injEq, Prod.mk.injEq] at h
    obtain ⟨rfl, rfl⟩ := h
    exact passL_nil _
  | cons q b ih =>
    obtain ⟨x, a', f', g1, g2, rfl⟩ := passL_cons.1 h
    simp only [List.length_cons] at hu
    obtain ⟨i1, i2, i3⟩ := passOne_back g1 h1 (h2 q (by simp)) (by omega) (by omega)
    have hl := passOne_len g1
    have e := ih g2 i2 (fun z hz => h2 z (by simp [hz])) (by omega) (by omega)
    exact passL_left (a := [x]).2 ⟨a', b, [q], e, i1, rfl⟩
/-! ### The same tree -/
theorem passOne_same {t : List File} {l : List Prim} {q y : Prim} {l' : List Prim} (hs : Srt t) (h : (runL t (l ++ [q])).2 = 0) (hp : passOne l q = some (y, l')) : runL t (y :: l') = runL t (l ++ [q]) := by
  induction l generalizing t y l' with
  | nil =>
    simp only [passOne, Option.some.injEq, Prod.mk.injEq] at hp
    obtain ⟨rfl, rfl⟩ := hp
    rfl
  | cons p l ih =>
    obtain ⟨x, p', l'', g1, g2, rfl⟩ := passOne_cons.1 hp
    rw [List.cons_append] at h ⊢
    rw [runL] at h
    rw [runL.eq_2 t p]
    split at h
    · rename_i h0
      rw [if_pos h0]
      have e := ih (apply_srt hs h0) h g1
      rw [← e] at h ⊢
      rw [runL] at h
      rw [runL.eq_2 _ x]
      split at h
      · rename_i h1
        rw [if_pos h1]
        obtain ⟨k1, k2⟩ := pass_same hs h0 h1 g2
        rw [runL, if_pos k1, runL, if_pos (by rw [k2]), k2]
      · rename_i h1; exact absurd h h1
    · rename_i h0; exact absurd h h0
theorem passL_same {t : List File} {a b f m : List Prim} (hs : Srt t) (h : (runL t (a ++ b)).2 = 0) (hp : passL a b = some (f, m)) : runL t (f ++ m) = runL t (a ++ b) := by
  induction b generalizing t a f with
  | nil =>
    simp only [passL, Option.some.injEq, Prod.mk.injEq] at hp
    obtain ⟨rfl, rfl⟩ := hp
    simp
  | cons q b ih =>
    obtain ⟨x, a', f', g1, g2, rfl⟩ := passL_cons.1 hp
    have e1 : a ++ q :: b = (a ++ [q]) ++ b := by simp
    rw [e1] at h ⊢
    obtain ⟨h1, h2⟩ := runL_ok.1 h
    have e2 := passOne_same hs h1 g1
    rw [runL_app h1, ← e2]
    rw [← e2] at h1 h2
    rw [List.cons_append, runL]
    rw [runL] at h1 h2 ⊢
    split at h1
    · rename_i h0
      rw [if_pos h0] at h2 ⊢
      have h3 : (runL (applyP t x).1 (a' ++ b)).2 = 0 := runL_ok.2 ⟨h1, h2⟩
      rw [if_pos h0, ih (apply_srt hs h0) h3 g2, runL_app h1]
    · rename_i h0; exact absurd h1 h0
/-! ### Turned -/
theorem run_turn {t : List File} {l : List Prim} (hs : Srt t) (h : (runL t l).2 = 0) : runL (runL t l).1 (turnL l) = (t, 0) := by
  induction l generalizing t with
  | nil => rfl
  | cons p l ih =>
    rw [runL] at h ⊢
    split at h
    · rename_i h0
      rw [if_pos h0]
      have e := ih (apply_srt hs h0) h
      have : turnL (p :: l) = turnL l ++ [turnP p] := by simp [turnL]
      rw [this, runL_app (by rw [e]), e, runL_one, apply_back hs h0]
    · rename_i h0; exact absurd h h0
end Go.Qm
