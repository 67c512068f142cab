/- An abstract machine over data (part 16): ranges over functions. -/
import Derived.Test.YtncipmjchifcgaaVam15
namespace Go.Vam
open Go.RowKit
set_option linter.unusedVariables false
set_option linter.unusedSimpArgs false

def zipT : List Nat → List AV → List (Nat × AV) → List (Nat × AV)
  | p :: ps, x :: xs, tm => zipT ps xs ((p, x) :: tm)
  | _, _, tm => tm
theorem zipT_AR {Z : Zone} {w : World} {β : Nat → Value} {cr : Nat → Prop} {nt : Nat} : ∀ (ps : List Nat) (xs : List AV) (vs : List Value) (tm : List (Nat × AV)) (tmps : Array Value), vs.length = xs.length → tmps.size = nt → (∀ p ∈ ps, p < nt) →
    (∀ (i : Nat) (x : AV) (v : Value), xs[i]? = some x → vs[i]? = some v → AR Z w β cr x v) → (∀ t, AR Z w β cr (look tm t) (tmps.getD t undef)) →
    ∀ t, AR Z w β cr (look (zipT ps xs tm) t) (((ps.zip vs).foldl (fun tmps (p : Nat × Value) => tmps.setIfInBounds p.1 p.2) tmps).getD t undef)
  | [], xs, vs, tm, tmps, _, _, _, _, h, t => by simpa [zipT] using h t
  | p :: ps, [], vs, tm, tmps, hl, _, _, _, h, t => by
    have : vs = [] := List.eq_nil_of_length_eq_zero hl
    subst this
    simpa [zipT] using h t
  | p :: ps, x :: xs, [], tm, tmps, hl, _, _, _, _, _ => by simp at hl
  | p :: ps, x :: xs, v :: vs, tm, tmps, hl, hsz, hp, hA, h, t => by
    simp only [zipT, List.zip_cons_cons, List.foldl_cons]
    refine zipT_AR ps xs vs _ _ (by simpa using hl) (by simpa using hsz) (fun q hq => hp q (by simp [hq])) (fun i y u e1 e2 => hA (i + 1) y u (by simpa using e1) (by simpa using e2)) (fun s => ?_) t
    simp only [look]
    by_cases hps : p = s
    · subst hps
      have hlt : p < tmps.size := by rw [hsz]; exact hp p (by simp)
      rw [if_pos rfl]
      have : (tmps.setIfInBounds p v).getD p undef = v := by simp [hlt]
      rw [this]
      exact hA 0 x v rfl rfl
    · rw [if_neg hps]
      have : (tmps.setIfInBounds p v).getD s undef = tmps.getD s undef := by
        simp only [Array.getD_eq_getD_getElem?]
        rw [Array.getElem?_setIfInBounds_ne hps]
      rw [this]
      exact h s
def setLp (S : St) (b : Nat) (x : Bx) : St := ⟨S.nt, S.tm, setBx S.bx b x, S.dead, S.fz⟩
/-- How a round ends. -/
def YEnd (F : LoopState → Option Code → Bool → Prop) : Exit → Prop
  | .normal => F .ready none true
  | .ret => F .done (some .ret) false
  | .exit id => F .done (some (.exit id)) false
  | _ => False
theorem OpK.yield {E : En} (hE : EOk E) {o : Oper} {S : St} {K : St → Prop} {fo : Operand} {as : Array Operand} {ts : Array TypeId} {b nt : Nat} {tm : List (Nat × AV)} {ps : List Nat} {assign body : Code} (ho : o.op = .call { callee := .value fo, args := as, argTypes := ts })
    (hf : evT S.tm fo = .yld b) (hd : dstOk S.nt o.dst = true) (hn : E.n0 ≤ S.bx.length) (hb : b ∉ S.dead) (hbx : nthB S.bx b = some (.lp nt tm ps assign body .ready none)) (hsz : as.size = ps.length) (hps : ∀ p ∈ ps, p < nt)
    (h : ∀ E' : En, EOk E' → E'.P = E.P → E'.tt = E.tt → E'.n0 = S.bx.length → AWP E' assign ⟨nt, zipT ps (mapN (evT S.tm) as.toList) tm, S.bx, S.dead, S.fz⟩ (fun e S1 => e = .normal ∧ nthB S1.bx b = some (.lp nt tm ps assign body .ready none) ∧ b ∉ S1.dead ∧
      AWP E' body (setLp S1 b (.lp nt tm ps assign body .busy none)) (fun e S2 => nthB S2.bx b = some (.lp nt tm ps assign body .busy none) ∧ b ∉ S2.dead ∧
        YEnd (fun st pe v => K ⟨S.nt, putT S.tm o.dst (.c (.sc (.bool v))), setBx S2.bx b (.lp nt tm ps assign body st pe), S2.dead, S2.fz⟩) e))) : OpK E o S K := fun Z β a w hs => by
  have hfo := hs.evT fo
  rw [hf] at hfo
  generalize hq : a.eval fo = q at hfo
  cases hfo with
  | yld _ g hcb hg =>
    obtain ⟨g', rec, hv, hh, e1, rfl, rfl, e4, e5, e6, e7, _⟩ := hs.w.putLp hE hb hbx
    have hgg : g' = g := by rw [hv] at hg; simpa using hg
    subst hgg
    have hbl : b < S.bx.length := by rw [nthB_eq] at hbx; exact (List.getElem?_eq_some_iff.1 hbx).1
    have hpsz : rec.params.size = ps.length := by rw [← e1]; simp
    have hy := run_yield (P := E.P) (args := as.map a.eval) hh (by simp [hsz, hpsz])
    have hrun : (execOp a.eval o).run E.P w = .ok (.round g' rec.fn ((rec.params.zip (as.map a.eval)).foldl (fun tmps (t, a) => tmps.setIfInBounds t a) rec.tmps) rec.assign rec.body) w := by
      have : ((#[] : Array Value) ++ as.map a.eval) = as.map a.eval := by simp
      simp only [execOp, ho, resolve, hq, Deferred.ofValue, invoke, Sem.run_bind, Sem.run_pure, Result.andThen_ok, this, hy]
    unfold OpRun
    rw [hrun]
    simp only
    let E' : En := { E with n0 := S.bx.length, rd := some g' }
    have hE' : EOk E' := ⟨hE.hT, hE.hm, hE.hb, hE.hmb⟩
    have hfold : ((rec.params.zip (as.map a.eval)).foldl (fun tmps (t, a) => tmps.setIfInBounds t a) rec.tmps) = ((ps.zip (as.toList.map a.eval)).foldl (fun tmps (p : Nat × Value) => tmps.setIfInBounds p.1 p.2) rec.tmps) := by
      rw [← Array.foldl_toList, Array.toList_zip, e1, Array.toList_map]
    have htsz : ((rec.params.zip (as.map a.eval)).foldl (fun tmps (t, a) => tmps.setIfInBounds t a) rec.tmps).size = nt := by
      rw [hfold]
      have : ∀ (l : List (Nat × Value)) (t : Array Value), (l.foldl (fun tmps (p : Nat × Value) => tmps.setIfInBounds p.1 p.2) t).size = t.size := fun l => by
        induction l with
        | nil => intro t; rfl
        | cons p l ih => intro t; rw [List.foldl_cons, ih]; simp
      rw [this, e6]
    have hs1 : Sim E' ⟨nt, zipT ps (mapN (evT S.tm) as.toList) tm, S.bx, S.dead, S.fz⟩ Z β { tmps := (rec.params.zip (as.map a.eval)).foldl (fun tmps (t, a) => tmps.setIfInBounds t a) rec.tmps, defers := [] } w := by
      refine (hs.w.congr (E' := E') rfl rfl rfl).sim htsz (fun t => ?_) (.none hs.df.1)
      simp only
      rw [hfold]
      refine zipT_AR ps _ _ tm rec.tmps (by simp [mapN_eq]) e6 hps (fun i x v h1 h2 => ?_) e7 t
      rw [mapN_eq, List.getElem?_map] at h1
      rw [List.getElem?_map] at h2
      cases hx : as.toList[i]? with
      | none => rw [hx] at h1; simp at h1
      | some y =>
        rw [hx] at h1 h2
        simp only [Option.map_some, Option.some.injEq] at h1 h2
        subst h1; subst h2
        exact hs.evT y
    have hw1 := h E' hE' rfl rfl rfl Z β _ w hs1
    refine roundIn_of_wpIn (F := Fence.wide) trivial (wpIn_mono hw1 fun e a1 w1 ⟨S1, Z1, β1, k1, k2, k3, k4⟩ => ?_)
    obtain ⟨rfl, hb1, hd1, k5⟩ := k4
    obtain ⟨g1, rec1, hv1, hh1, f1, f2, f3, f4, f5, f6, f7, fput⟩ := k1.w.putLp hE' hd1 hb1
    have hg1 : g1 = g' := by
      have := k2.same b hbl
      rw [this, hv] at hv1
      simpa using hv1.symm
    subst hg1
    obtain ⟨p1, p2, p3⟩ := fput .busy none
    have hst : ({ rec1 with state := LoopState.busy, pending := none } : Loop) = { rec1 with state := .busy } := by rw [← f5]
    refine ⟨_, run_beginRound hh1 f4, ?_⟩
    rw [← hst]
    have hs2 : Sim E' (setLp S1 b (.lp nt tm ps rec.assign rec.body .busy none)) Z1 β1 a1 (w1.putObj g1 (.loop { rec1 with state := .busy, pending := none })) :=
      p1.sim k1.tsz (fun t => (k1.tr t).ext p2 fun c hc => ⟨by simpa [setBx_eq] using hc, rfl⟩) (k1.df.kept rfl p3)
    have hw2 := k5 Z1 β1 a1 _ hs2
    refine wpIn_mono hw2 fun e a2 w2 ⟨S2, Z2, β2, q1, q2, q3, q4⟩ => ?_
    obtain ⟨hb2, hd2, q5⟩ := q4
    have fin : ∀ (jump : Option Code) (st : LoopState), st = (if jump.isNone then LoopState.ready else .done) → K ⟨S.nt, putT S.tm o.dst (.c (.sc (.bool jump.isNone))), setBx S2.bx b (.lp nt tm ps rec.assign rec.body st jump), S2.dead, S2.fz⟩ →
        ∃ v w', (Instr.endRound g1 jump).run E.P w2 = .ok v w' ∧ ∃ v', Ending.returned v = .returned v' ∧ After E E.n0 Z β w K (a.put o.dst v') w' := fun jump st hst hK => by
      obtain ⟨g2, rec2, hv2, hh2, _, _, _, _, _, _, _, fput2⟩ := q1.w.putLp hE' hd2 hb2
      have hg2 : g2 = g1 := by
        have h1 := q2.same b hbl
        have h2 := k2.same b hbl
        rw [h1, h2, hv] at hv2
        simpa using hv2.symm
      subst hg2
      obtain ⟨r1, r2, r3⟩ := fput2 st jump
      refine ⟨_, _, run_endRound jump hh2, _, rfl, ?_⟩
      rw [← hst]
      refine After.behind hs hn hd (r1.congr (E' := E) rfl rfl rfl) ⟨((k2.ext.trans p2).trans q2.ext).trans r2, fun c hc => (q2.same c hc).trans (k2.same c hc), ((k2.kd.trans p3).trans q2.kd).trans r3⟩ (by simp only [setBx_eq, List.length_set]; exact q3) (.c _ _ (.sc _ rfl)) hK
    cases e with
    | normal => exact fin none .ready rfl q5
    | ret => exact fin (some .ret) .done rfl q5
    | exit id => exact fin (some (.exit id)) .done rfl q5
    | goto t => exact q5.elim
    | panic c => exact q5.elim
    | outgrown => exact q5.elim

/-- **A RANGE OVER A FUNCTION**: the function is run where it stands. -/
theorem AWP.range {E : En} (hE : EOk E) (hrd : E.rd = none) {fo : Operand} {ps : Array Tmp} {assign body : Code} {S : St} {Q : Exit → St → Prop} {g : FuncId} {first caps : List AV} (hn : E.n0 ≤ S.bx.length)
    (hf : fnOf (evT S.tm fo) = some (g, first, caps))
    (h : InlC E g (first ++ [.yld S.bx.length] ++ caps) ⟨S.nt, S.tm, S.bx ++ [.lp S.nt S.tm ps.toList assign body .ready none], S.dead, S.fz⟩ (fun r bx' dead' fz' => ∃ st pe, nthB bx' S.bx.length = some (.lp S.nt S.tm ps.toList assign body st pe) ∧ st ≠ .busy ∧ S.bx.length ∉ dead' ∧
      (match pe with
       | none => Q .normal ⟨S.nt, S.tm, bx', S.bx.length :: dead', fz'⟩
       | some c => AWP E c ⟨S.nt, S.tm, bx', S.bx.length :: dead', fz'⟩ Q))) : AWP E (.rangeFunc fo ps assign body) S Q := fun Z β a w hs => by
  obtain ⟨hent, hc⟩ := h
  obtain ⟨fs, cs, hv, l1, l2, A1, A2⟩ := fnOf_AR (hs.evT fo) hf
  have hF : fenceR E.rd = Fence.wide := by rw [hrd]; rfl
  rw [hF]
  refine wpIn_rangeFunc fun fn hfn => ?_
  obtain ⟨β1, n1, n2, n3, n4⟩ := hs.newLp fn ps assign body
  generalize hrec : ({ state := .ready, pending := none, fn, tmps := a.tmps, params := ps, assign, body, defers := w.heap.size } : Loop) = rec at n1 n2 n4
  generalize hW : (w.alloc (.deferred (some []))).alloc (.loop rec) = W at n1 n2 n4
  have hlen : (S.bx ++ [Bx.lp S.nt S.tm ps.toList assign body .ready none]).length = S.bx.length + 1 := by simp
  refine ⟨w.heap.size + 1, [mark w.heap.size], W, { target := .fn (.func g) cs, args := fs ++ #[.func (.yield (w.heap.size + 1)) #[] #[]] }, W, g, fs ++ #[.func (.yield (w.heap.size + 1)) #[] #[]] ++ cs, W, ?_, ?_, fun _ _ => trivial, ?_, fun h => by simp [Fence.wide] at h, ?_⟩
  · rw [← hW, ← hrec]; exact run_enterLoop_outer _ _ _ _ _
  · have hcv : a.eval (.const (.func (.yield (w.heap.size + 1)) #[] #[])) = .func (.yield (w.heap.size + 1)) #[] #[] := rfl
    simp only [resolve, hv, Deferred.ofValue, Sem.run_pure, List.map_toArray, List.map_cons, List.map_nil, hcv]
  · simp only [invoke]
    exact hent _ W
  · refine callsIn_wide.2 ((hc Z β1 W _ n1 (Nat.le_trans hs.df.1 n2.kd.size) (by simp [l1, l2]; omega) ?_).mono ?_)
    · have hcr : ∀ c, c < S.bx.length → c < (S.bx ++ [Bx.lp S.nt S.tm ps.toList assign body .ready none]).length ∧ β1 c = β c := fun c hc => ⟨by rw [hlen]; omega, n2.same c hc⟩
      refine append_AR (by simp [l1]) (append_AR l1 (fun i x v e1 e2 => (A1 i x v e1 e2).ext n2.ext hcr) fun i x v e1 e2 => ?_) (fun i x v e1 e2 => (A2 i x v e1 e2).ext n2.ext hcr)
      match i with
      | 0 =>
        simp at e1 e2
        subst e1; subst e2
        exact .yld _ _ (by simp) n3
      | i + 1 => simp at e1
    · rintro e w' ⟨v, bx', dead', fz', Z', β', r, rfl, k1, k2, k3, k4, st, pe, k5, k6, k7, k8⟩
      obtain ⟨g1, rec1, hv1, hh1, f1, f2, f3, f4, f5, f6, f7, fput⟩ := k1.putLp hE k7 k5
      have hg1 : g1 = w.heap.size + 1 := by
        have := k2.same S.bx.length (by rw [hlen]; omega)
        rw [this, n3] at hv1
        simpa using hv1.symm
      subst hg1
      obtain ⟨p1, p2, p3⟩ := fput .exhausted pe
      have hpe : ({ rec1 with state := LoopState.exhausted, pending := pe } : Loop) = { rec1 with state := .exhausted } := by rw [← f5]
      rw [hpe] at p1 p2 p3
      refine ⟨pe, w'.putObj (w.heap.size + 1) (.loop { rec1 with state := .exhausted }), ?_, ?_⟩
      · exact (run_endLoop (P := E.P) hh1 (by rw [f4]; exact k6)).trans (congrArg (fun p => Result.ok p _) f5)
      · -- the state behind it
        rw [hlen] at k3
        have hlt : S.bx.length < bx'.length := by omega
        have hout : Sim E ⟨S.nt, S.tm, bx', S.bx.length :: dead', fz'⟩ Z' β' { a with defers := [mark w.heap.size] ++ a.defers } (w'.putObj (w.heap.size + 1) (.loop { rec1 with state := .exhausted })) := by
          have hb2 : (setBx bx' S.bx.length (.lp S.nt S.tm ps.toList assign body .exhausted pe)).length = bx'.length := by simp [setBx_eq]
          have hwr : WR E.base E.w0 Z' β' (fun b => b < bx'.length) (fun b => b < bx'.length ∧ b ∉ S.bx.length :: dead') (fun b => b ∈ fz') (nthB bx') (w'.putObj (w.heap.size + 1) (.loop { rec1 with state := .exhausted })) := by
            have := p1.wr
            simp only [hb2] at this
            refine this.mono (fun _ h => h) (fun b hb => ⟨hb.1, fun h => hb.2 (by simp [h])⟩) (fun _ h => h) (fun b hb => ?_)
            have hne : b ≠ S.bx.length := fun e => hb.2 (by simp [e])
            rw [nthB_eq, nthB_eq, setBx_eq, List.getElem?_set_ne (fun e => hne e.symm)]
          refine ⟨⟨hwr, p1.z0, p1.zn, hs.tsz, fun t => ((hs.tr t).ext (n2.ext.trans (k2.ext.trans p2)) fun c hc => ⟨Nat.lt_trans hc hlt, (k2.same c (by rw [hlen]; exact Nat.lt_succ_of_lt hc)).trans (n2.same c hc)⟩), ?_⟩, k1.fl, fun b hb => ?_⟩
          · obtain ⟨m0, ms, m1, m2, m3⟩ := hs.df
            have hkd := n2.kd.trans (k2.kd.trans p3)
            refine ⟨Nat.le_trans m0 hkd.size, w.heap.size :: ms, by simp [m1], ?_, fun D hD => ?_⟩
            · rw [List.nodup_cons]
              refine ⟨fun hm => ?_, m2⟩
              have := (Array.getElem?_eq_some_iff.1 (m3 _ hm).2).1
              omega
            · rcases List.mem_cons.1 hD with rfl | hD
              · exact ⟨m0, (k2.kd.trans p3).same _ n4⟩
              · exact ⟨(m3 D hD).1, hkd.same D (m3 D hD).2⟩
          · rcases List.mem_cons.1 hb with rfl | hb
            · exact hlt
            · exact k1.dl b hb
        have hev : Evo E.n0 Z β Z' β' w (w'.putObj (w.heap.size + 1) (.loop { rec1 with state := .exhausted })) :=
          ⟨n2.ext.trans (k2.ext.trans p2), fun c hc => by rw [k2.same c (by rw [hlen]; omega), n2.same c (by omega)], n2.kd.trans (k2.kd.trans p3)⟩
        cases pe with
        | none => exact ⟨_, Z', β', hout, hev, by simp only; omega, k8⟩
        | some c =>
          have := k8 Z' β' _ _ hout
          rw [hF] at this
          exact wpIn_mono this fun e a2 w2 k => k.trans hev
end Go.Vam
