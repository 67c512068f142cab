/- An abstract machine over data (part 15): calls that are run where they stand; ranges over functions. -/
import Derived.Test.YtncipmjchifcgaaVam14
namespace Go.Vam
open Go.RowKit
set_option linter.unusedVariables false
set_option linter.unusedSimpArgs false

/-! ### 1. A state without temporaries -/
structure WSim (E : En) (bx : List Bx) (dead fz : List Nat) (Z : Zone) (β : Nat → Value) (w : World) : Prop where
  wr : WR E.base E.w0 Z β (fun b => b < bx.length) (fun b => b < bx.length ∧ b ∉ dead) (fun b => b ∈ fz) (nthB bx) w
  z0 : ∀ a, E.Z0 a → Z a
  zn : ∀ a, Z a → ¬ E.Z0 a → E.base ≤ a.block
  fl : ∀ b, b ∈ fz → b < bx.length
  dl : ∀ b, b ∈ dead → b < bx.length
theorem Sim.w {E : En} {S : St} {Z : Zone} {β : Nat → Value} {a : Act} {w : World} (h : Sim E S Z β a w) : WSim E S.bx S.dead S.fz Z β w := ⟨h.wr, h.z0, h.zn, h.fl, h.dl⟩
theorem WSim.sim {E : En} {nt : Nat} {tm : List (Nat × AV)} {bx : List Bx} {dead fz : List Nat} {Z : Zone} {β : Nat → Value} {a : Act} {w : World} (h : WSim E bx dead fz Z β w) (hsz : a.tmps.size = nt)
    (ht : ∀ t, AR Z w β (fun b => b < bx.length) (look tm t) (a.tmps.getD t undef)) (hd : Marks E.mb a w) : Sim E ⟨nt, tm, bx, dead, fz⟩ Z β a w := ⟨⟨h.wr, h.z0, h.zn, hsz, ht, hd⟩, h.fl, h.dl⟩
theorem WSim.congr {E E' : En} {bx : List Bx} {dead fz : List Nat} {Z : Zone} {β : Nat → Value} {w : World} (h : WSim E bx dead fz Z β w) (h1 : E'.base = E.base) (h2 : E'.w0 = E.w0) (h3 : E'.Z0 = E.Z0) : WSim E' bx dead fz Z β w :=
  ⟨by rw [h1, h2]; exact h.wr, by rw [h3]; exact h.z0, by rw [h3, h1]; exact h.zn, h.fl, h.dl⟩
/-- Behind a call: the caller's temporaries are as they were. -/
theorem After.behind {E : En} {S : St} {Z Z' : Zone} {β β' : Nat → Value} {a : Act} {w w' : World} {d : Option Nat} {v : Value} {r : AV} {bx' : List Bx} {dead' fz' : List Nat} {K : St → Prop}
    (hs : Sim E S Z β a w) (hn : E.n0 ≤ S.bx.length) (hd : dstOk S.nt d = true) (hw : WSim E bx' dead' fz' Z' β' w') (he : Evo S.bx.length Z β Z' β' w w') (hl : S.bx.length ≤ bx'.length)
    (hr : AR Z' w' β' (fun b => b < bx'.length) r v) (hK : K ⟨S.nt, putT S.tm d r, bx', dead', fz'⟩) : After E E.n0 Z β w K (a.put d v) w' := by
  refine ⟨_, Z', β', hw.sim (by rw [put_size, hs.tsz]) (fun t => ?_) (hs.df.kept (put_defers _ _ _) he.kd), he.mono hn, Nat.le_trans hn hl, hK⟩
  rw [look_put]
  have hold : AR Z' w' β' (fun b => b < bx'.length) (look S.tm t) (a.tmps.getD t undef) := (hs.tr t).ext he.ext fun b hb => ⟨Nat.lt_of_lt_of_le hb hl, he.same b hb⟩
  by_cases hdt : d = some t
  · subst hdt
    have hlt : t < a.tmps.size := by rw [hs.tsz]; simpa [dstOk] using hd
    rw [put_get _ _ _ _ hlt, if_pos rfl, if_pos rfl]
    exact hr
  · rw [if_neg hdt]
    by_cases hlt : t < a.tmps.size
    · rwa [put_get _ _ _ _ hlt, if_neg hdt]
    · have e1 : (a.put d v).tmps.getD t undef = a.tmps.getD t undef := by
        have hs' : ¬ t < (a.put d v).tmps.size := by rw [put_size]; exact hlt
        simp [Array.getElem?_eq_none (Nat.le_of_not_lt hlt), Array.getElem?_eq_none (Nat.le_of_not_lt hs')]
      rwa [e1]

/-! ### 2. Calls that are run where they stand -/
def retA : List AV → AV
  | [y] => y
  | ys => .tup ys
def InlC (E : En) (g : FuncId) (args : List AV) (S : St) (K : AV → List Bx → List Nat → List Nat → Prop) : Prop :=
  Enters E.P g ∧ ∀ Z β w (vs : Array Value), WSim E S.bx S.dead S.fz Z β w → E.mb ≤ w.heap.size → vs.size = args.length → (∀ (i : Nat) (x : AV) (v : Value), args[i]? = some x → vs[i]? = some v → AR Z w β (fun b => b < S.bx.length) x v) →
    Calls E.P g vs w fun e w' => ∃ v bx' dead' fz' Z' β' r, e = .returned v ∧ WSim E bx' dead' fz' Z' β' w' ∧ Evo S.bx.length Z β Z' β' w w' ∧ S.bx.length ≤ bx'.length ∧ AR Z' w' β' (fun b => b < bx'.length) r v ∧ K r bx' dead' fz'
theorem InlC.of_body {E : En} (hE : EOk E) {g : FuncId} {fn : Func} {c : Code} {args : List AV} {S : St} {K : AV → List Bx → List Nat → List Nat → Prop} (hf : E.P.funcs[g]? = some fn) (hb : fn.body = some c) (hname : (fn.name == "runtime.NumGoroutine") = false)
    (hnt : args.length ≤ fn.ntmps) (h : ∀ E' : En, EOk E' → E'.P = E.P → E'.tt = E.tt → E'.n0 = S.bx.length → E'.rd = none → AWP E' c ⟨fn.ntmps, argsT 0 args, S.bx, S.dead, S.fz⟩ (fun e S' => (e = .normal ∨ e = .ret) ∧ ∃ ys, resVs E.tt S' fn.results.toList = some ys ∧ K (retA ys) S'.bx S'.dead S'.fz)) : InlC E g args S K := by
  refine ⟨fun vs w => ?_, fun Z β w vs hw hmb hsz hA => ?_⟩
  · simp only [callFunc, Sem.run_bind, run_program, Result.andThen_ok, hf, hname, hb, Option.isNone_some, Bool.false_eq_true, if_false, Sem.run_pure]
  · refine (callsIn_wide (n := 0)).1 (callsIn_of_wp_marks hf hb trivial ?_)
    let E' : En := { E with n0 := S.bx.length, rd := none, mb := w.heap.size }
    have hE' : EOk E' := ⟨hE.hT, hE.hm, hE.hb, hw.wr.hbase⟩
    have hs : Sim E' ⟨fn.ntmps, argsT 0 args, S.bx, S.dead, S.fz⟩ Z β { tmps := vs ++ Array.replicate (fn.ntmps - vs.size) undef, defers := [] } w := by
      refine (hw.congr (E' := E') rfl rfl rfl).sim (by simp only [Array.size_append, Array.size_replicate]; omega) (fun t => ?_) (.none (Nat.le_refl _))
      rw [argsT_look, if_pos (Nat.zero_le _), Nat.sub_zero]
      cases hx : args[t]? with
      | none => exact .any _
      | some x =>
        have hlt : t < args.length := (List.getElem?_eq_some_iff.1 hx).1
        have hv : vs[t]? = some (vs[t]'(by omega)) := Array.getElem?_eq_getElem (by omega)
        have hg : (vs ++ Array.replicate (fn.ntmps - vs.size) undef).getD t undef = vs[t]'(by omega) := by
          rw [Array.getD_eq_getD_getElem?, Array.getElem?_append_left (by omega), hv]
          rfl
        rw [hg]
        exact hA t x _ hx hv
    have hwp := h E' hE' rfl rfl rfl rfl Z β _ w hs
    refine wpIn_mono hwp fun e a' w1 ⟨S', Z', β', h0, h20, h3, h4⟩ => ?_
    obtain ⟨he, ys, hys, hK⟩ := h4
    suffices hL : LeavesInM Fence.wide 0 E.P fn a'.tmps (fun e w' => ∃ v bx' dead' fz' Z' β' r, e = .returned v ∧ WSim E bx' dead' fz' Z' β' w' ∧ Evo S.bx.length Z β Z' β' w w' ∧ S.bx.length ≤ bx'.length ∧ AR Z' w' β' (fun b => b < bx'.length) r v ∧ K r bx' dead' fz') a'.defers .returning w1 by
      rcases he with rfl | rfl
      · exact hL
      · exact hL
    obtain ⟨hmb1, ms, hm1, hm2, hm3⟩ := h0.df
    rw [hm1]
    refine leaves_marks ms w1 hm2 (fun D h => (hm3 D h).2) fun w' htk => ?_
    have hmb' : E.base ≤ w.heap.size := hw.wr.hbase
    obtain ⟨h1, hext⟩ := h0.taken hE'.hb htk fun D hD => ⟨Nat.le_trans hmb' (hm3 D hD).1, (hm3 D hD).2⟩
    obtain ⟨vs', r1, l1, a1⟩ := resVs_sound (E := E') hE'.hT h1 hys
    have hres := results_run (P := E.P) (fn := fn) (tmps := a'.tmps) (w := w') (vs := vs') r1
    refine ⟨_, hres, _, S'.bx, S'.dead, S'.fz, Z', β', retA ys, rfl, h1.w.congr rfl rfl rfl, ⟨h20.ext.trans hext, h20.same, ⟨Nat.le_trans h20.kd.size (Nat.le_of_eq htk.size.symm), fun k hk => ?_⟩⟩, h3, ?_, hK⟩
    · have hkl : k < w.heap.size := (Array.getElem?_eq_some_iff.1 hk).1
      have hkm : k ∉ ms := fun hm => by have h5 : w.heap.size ≤ k := (hm3 k hm).1; omega
      rw [htk.other k hkm]
      exact h20.kd.same k hk
    · match ys, l1, a1 with
      | [y], l1, a1 =>
        have hl : vs'.length = 1 := l1
        obtain ⟨v, rfl⟩ := List.length_eq_one_iff.1 hl
        rw [dif_pos (by simp)]
        exact a1 0 y v rfl rfl
      | [], l1, a1 =>
        have hl : vs' = [] := List.eq_nil_of_length_eq_zero l1
        subst hl
        rw [dif_neg (by simp)]
        exact .tup _ _ rfl (fun i x v e1 e2 => by simp at e1)
      | y1 :: y2 :: ys, l1, a1 =>
        rw [dif_neg (by simp [l1])]
        exact .tup _ _ (by simp [l1]) (fun i x v e1 e2 => a1 i x v e1 (by simpa using e2))

def fnOf : AV → Option (FuncId × List AV × List AV)
  | .c (.fn g caps) => some (g, [], mapN .pt caps)
  | .clo g first caps => some (g, first, caps)
  | _ => none
theorem fnOf_AR {Z : Zone} {w : World} {β : Nat → Value} {cr : Nat → Prop} {x : AV} {v : Value} {g : FuncId} {first caps : List AV} (h : AR Z w β cr x v) (hf : fnOf x = some (g, first, caps)) :
    ∃ fs cs : Array Value, v = .func (.func g) fs cs ∧ fs.size = first.length ∧ cs.size = caps.length ∧ (∀ (i : Nat) (x : AV) (v : Value), first[i]? = some x → fs[i]? = some v → AR Z w β cr x v) ∧ (∀ (i : Nat) (x : AV) (v : Value), caps[i]? = some x → cs[i]? = some v → AR Z w β cr x v) := by
  cases h with
  | c x v h =>
    cases h with
    | sc v h => simp [fnOf] at hf
    | sl => simp [fnOf] at hf
    | fn g' caps' ps vals hl hc hv =>
      simp only [fnOf, Option.some.injEq, Prod.mk.injEq] at hf
      obtain ⟨rfl, rfl, rfl⟩ := hf
      refine ⟨_, _, rfl, rfl, by simp [mapN_eq, hl], by simp, fun i x v e1 e2 => ?_⟩
      rw [mapN_eq, List.getElem?_map] at e1
      simp only [List.getElem?_toArray, List.getElem?_map] at e2
      cases h1 : caps'[i]? with
      | none => rw [h1] at e1; simp at e1
      | some cs =>
        cases h2 : ps[i]? with
        | none => rw [h2] at e2; simp at e2
        | some ad =>
          rw [h1] at e1
          rw [h2] at e2
          simp only [Option.map_some, Option.some.injEq] at e1 e2
          subst e1; subst e2
          exact .pt cs ad (vals i) (fun k hk => hc i ad cs h2 h1 k hk) (fun k c hk => hv i cs k c h1 hk)
  | clo g' f c fs cs hl hl' h h' =>
    simp only [fnOf, Option.some.injEq, Prod.mk.injEq] at hf
    obtain ⟨rfl, rfl, rfl⟩ := hf
    exact ⟨fs, cs, rfl, hl, hl', h, h'⟩
  | any | und | agg | pt | ptr | own | optr | nil | tup | yld => simp [fnOf] at hf
theorem append_AR {Z : Zone} {w : World} {β : Nat → Value} {cr : Nat → Prop} {l m : List AV} {vs us : Array Value} (hl : vs.size = l.length)
    (h1 : ∀ (i : Nat) (x : AV) (v : Value), l[i]? = some x → vs[i]? = some v → AR Z w β cr x v) (h2 : ∀ (i : Nat) (x : AV) (v : Value), m[i]? = some x → us[i]? = some v → AR Z w β cr x v) :
    ∀ (i : Nat) (x : AV) (v : Value), (l ++ m)[i]? = some x → (vs ++ us)[i]? = some v → AR Z w β cr x v := fun i x v e1 e2 => by
  by_cases hi : i < l.length
  · rw [List.getElem?_append_left hi] at e1
    rw [Array.getElem?_append_left (by omega)] at e2
    exact h1 i x v e1 e2
  · rw [List.getElem?_append_right (by omega)] at e1
    rw [Array.getElem?_append_right (by omega), hl] at e2
    exact h2 _ x v e1 e2
theorem OpK.inl {E : En} (hE : EOk E) {o : Oper} {S : St} {K : St → Prop} {fo : Operand} {as : Array Operand} {ts : Array TypeId} {g : FuncId} {first caps : List AV} (ho : o.op = .call { callee := .value fo, args := as, argTypes := ts })
    (hf : fnOf (evT S.tm fo) = some (g, first, caps)) (hd : dstOk S.nt o.dst = true) (hn : E.n0 ≤ S.bx.length)
    (h : InlC E g (first ++ mapN (evT S.tm) as.toList ++ caps) S (fun r bx' dead' fz' => K ⟨S.nt, putT S.tm o.dst r, bx', dead', fz'⟩)) : OpK E o S K := fun Z β a w hs => by
  obtain ⟨hent, hc⟩ := h
  obtain ⟨fs, cs, hv, l1, l2, A1, A2⟩ := fnOf_AR (hs.evT fo) hf
  have hrun : (execOp a.eval o).run E.P w = .ok (.enter g (fs ++ as.map a.eval ++ cs)) w := by
    have h2 : (callFunc g (fs ++ as.map a.eval ++ cs)).run E.P w = .ok (.enter g (fs ++ as.map a.eval ++ cs)) w := hent _ w
    simp only [execOp, ho, resolve, hv, Deferred.ofValue, invoke, Sem.run_bind, Sem.run_pure, Result.andThen_ok, h2]
  unfold OpRun
  rw [hrun]
  refine (hc Z β w _ hs.w hs.df.1 (by simp [l1, l2, mapN_eq]) ?_).mono ?_
  · refine append_AR (by simp [l1, mapN_eq]) (append_AR l1 A1 fun i x v e1 e2 => ?_) A2
    rw [mapN_eq, List.getElem?_map] at e1
    rw [Array.getElem?_map] at e2
    cases hx : as[i]? with
    | none => rw [hx] at e2; simp at e2
    | some y =>
      rw [Array.getElem?_toList, hx] at e1
      rw [hx] at e2
      simp only [Option.map_some, Option.some.injEq] at e1 e2
      subst e1; subst e2
      exact hs.evT y
  · rintro e w' ⟨v, bx', dead', fz', Z', β', r, rfl, k1, k2, k3, k4, k5⟩
    exact ⟨v, rfl, After.behind hs hn hd k1 k2 k3 k4 k5⟩

/-! ### 3. Loop records -/
theorem WSim.putLp {E : En} (hE : EOk E) {bx : List Bx} {dead fz : List Nat} {Z : Zone} {β : Nat → Value} {w : World} (hs : WSim E bx dead fz Z β w) {b nt : Nat} {tm : List (Nat × AV)} {ps : List Nat} {assign body : Code} {st : LoopState} {pend : Option Code}
    (hb : b ∉ dead) (hbx : nthB bx b = some (.lp nt tm ps assign body st pend)) :
    ∃ g rec, β b = .pointer (some ⟨g, 0, none⟩) ∧ w.heap[g]? = some (.loop rec) ∧ rec.params.toList = ps ∧ rec.assign = assign ∧ rec.body = body ∧ rec.state = st ∧ rec.pending = pend ∧ rec.tmps.size = nt ∧ (∀ t, AR Z w β (fun b => b < bx.length) (look tm t) (rec.tmps.getD t undef)) ∧
      ∀ (st' : LoopState) (pend' : Option Code), WSim E (setBx bx b (.lp nt tm ps assign body st' pend')) dead fz Z β (w.putObj g (.loop { rec with state := st', pending := pend' })) ∧ Ext Z Z w (w.putObj g (.loop { rec with state := st', pending := pend' })) ∧ KeepsD w (w.putObj g (.loop { rec with state := st', pending := pend' })) := by
  have hbl : b < bx.length := by rw [nthB_eq] at hbx; exact (List.getElem?_eq_some_iff.1 hbx).1
  obtain ⟨x, hx, hB⟩ := hs.wr.box b ⟨hbl, hb⟩
  rw [hbx] at hx
  injection hx with hx
  subst hx
  cases hB with
  | lp _ _ _ _ _ _ _ g rec hv hg hh hps has hbd hst hpd hsz hc hz =>
    have hgl : g < w.heap.size := (Array.getElem?_eq_some_iff.1 hh).1
    refine ⟨g, rec, hv, hh, hps, has, hbd, hst, hpd, hsz, hc, fun st' pend' => ?_⟩
    generalize hw' : w.putObj g (.loop { rec with state := st', pending := pend' }) = w'
    have hgr : w.grownBy w' (some g) := by rw [← hw']; exact grownBy_putObj' w g _
    have he : Ext Z Z w w' := ext_of_grown hgr hs.wr.zin (fun a ha e => hz a ha (by simpa using e))
    have hnew : w'.heap[g]? = some (.loop { rec with state := st', pending := pend' }) := by rw [← hw']; exact World.putObj_heap_same hgl
    have hlen : (setBx bx b (.lp nt tm ps assign body st' pend')).length = bx.length := by simp [setBx_eq]
    have e1 : (fun c => c < (setBx bx b (.lp nt tm ps assign body st' pend')).length) = fun c => c < bx.length := by rw [hlen]
    have e2 : (fun c => c < (setBx bx b (.lp nt tm ps assign body st' pend')).length ∧ c ∉ dead) = fun c => c < bx.length ∧ c ∉ dead := by rw [hlen]
    refine ⟨⟨?_, hs.z0, hs.zn, fun c hc => by rw [hlen]; exact hs.fl c hc, fun c hc => by rw [hlen]; exact hs.dl c hc⟩, he, ⟨hgr.size, fun k hk => ?_⟩⟩
    · rw [e1, e2]
      refine ⟨hs.wr.below.grown hgr hs.wr.hbase (fun k e => by injection e with e; omega), Nat.le_trans hs.wr.hbase hgr.size, fun a ha => Nat.lt_of_lt_of_le (hs.wr.zin a ha) hgr.size, hs.wr.zsp, fun c hc' => ?_, hs.wr.dis, hs.wr.sub, ⟨Nat.le_trans hs.wr.oth.size hgr.size, fun k o hk ho => ?_⟩⟩
      · by_cases hcb : c = b
        · subst hcb
          refine ⟨_, by rw [nthB_eq, setBx_eq, List.getElem?_set_self hbl], ?_⟩
          exact .lp _ _ _ _ _ _ _ g _ hv hg hnew hps has hbd rfl rfl hsz (fun t => (hc t).ext he fun _ h => ⟨h, rfl⟩) hz
        · obtain ⟨y, hy, hB'⟩ := hs.wr.box c hc'
          refine ⟨y, by rw [nthB_eq] at hy ⊢; rw [setBx_eq, List.getElem?_set_ne (fun e => hcb e.symm)]; exact hy, hB'.ext he (fun b h => ⟨h, rfl⟩) hc'.1 (fun g' hg' => hgr.block g' (hB'.blk_base hg').2 (fun e => ?_)) (fun g' hg' a ha e => .inl ha) id⟩
          injection e with e
          subst e
          exact hs.wr.dis c b g' hc' ⟨hbl, hb⟩ hcb hg' (by rw [hv]; rfl)
      · have hk' := hs.wr.oth.same k o hk ho
        refine (hgr.block k (Array.getElem?_eq_some_iff.1 hk').1 (fun e => ?_)).trans hk'
        injection e with e
        have h1 := (Array.getElem?_eq_some_iff.1 hk).1
        have h2 := hE.hb
        omega
    · refine (hgr.block k (Array.getElem?_eq_some_iff.1 hk).1 (fun e => ?_)).trans hk
      injection e with e
      subst e
      rw [hh] at hk
      simp at hk
/-- A record is laid. -/
theorem Sim.newLp {E : En} {S : St} {Z : Zone} {β : Nat → Value} {a : Act} {w : World} (hs : Sim E S Z β a w) (fn : FuncId) (ps : Array Tmp) (assign body : Code) :
    ∃ β' : Nat → Value, WSim E (S.bx ++ [.lp S.nt S.tm ps.toList assign body .ready none]) S.dead S.fz Z β' ((w.alloc (.deferred (some []))).alloc (.loop { state := .ready, pending := none, fn, tmps := a.tmps, params := ps, assign, body, defers := w.heap.size })) ∧
      Evo S.bx.length Z β Z β' w ((w.alloc (.deferred (some []))).alloc (.loop { state := .ready, pending := none, fn, tmps := a.tmps, params := ps, assign, body, defers := w.heap.size })) ∧
      β' S.bx.length = .pointer (some ⟨w.heap.size + 1, 0, none⟩) ∧ ((w.alloc (.deferred (some []))).alloc (.loop { state := .ready, pending := none, fn, tmps := a.tmps, params := ps, assign, body, defers := w.heap.size })).heap[w.heap.size]? = some (.deferred (some [])) := by
  generalize hrec : ({ state := .ready, pending := none, fn, tmps := a.tmps, params := ps, assign, body, defers := w.heap.size } : Loop) = rec
  generalize hW : (w.alloc (.deferred (some []))).alloc (.loop rec) = W
  have hL : W.heap[w.heap.size + 1]? = some (.loop rec) := by
    rw [← hW]; have := World.alloc_heap_new (w.alloc (.deferred (some []))) (.loop rec); rwa [World.size_alloc] at this
  have hD : W.heap[w.heap.size]? = some (.deferred (some [])) := by
    rw [← hW]; exact (heap_alloc_old _ _ (by simp)).trans (World.alloc_heap_new w _)
  have hbel : Below w.heap.size w W := by
    rw [← hW]; exact (((Below.refl _ w).alloc (Nat.le_refl _) _).alloc (by simp) _)
  let β' : Nat → Value := fun b => if b = S.bx.length then .pointer (some ⟨w.heap.size + 1, 0, none⟩) else β b
  have hβ : ∀ b, b < S.bx.length → β' b = β b := fun b hb => by simp [β', show b ≠ S.bx.length by omega]
  have hβn : β' S.bx.length = .pointer (some ⟨w.heap.size + 1, 0, none⟩) := by simp [β']
  have hlen : (S.bx ++ [Bx.lp S.nt S.tm ps.toList assign body .ready none]).length = S.bx.length + 1 := by simp
  have hcr : ∀ b, b < S.bx.length → b < (S.bx ++ [Bx.lp S.nt S.tm ps.toList assign body .ready none]).length ∧ β' b = β b := fun b hb => ⟨by rw [hlen]; omega, hβ b hb⟩
  have he : Ext Z Z w W := ext_of_below hbel hs.wr.zin
  refine ⟨β', ⟨⟨hs.wr.below.trans (hbel.mono hs.wr.hbase), Nat.le_trans hs.wr.hbase hbel.size, fun a ha => Nat.lt_of_lt_of_le (hs.wr.zin a ha) hbel.size, hs.wr.zsp, fun b hb => ?_, fun b b' g h1 h2 hne e1 e2 => ?_, fun b hb => hb.1, hs.wr.oth.trans (.of_below hbel)⟩, hs.z0, hs.zn, fun b hb => by have := hs.fl b hb; rw [hlen]; omega, fun b hb => by have := hs.dl b hb; rw [hlen]; omega⟩, ⟨he, hβ, .of (.of_below hbel)⟩, hβn, hD⟩
  · by_cases hbl : b = S.bx.length
    · subst hbl
      refine ⟨.lp S.nt S.tm ps.toList assign body .ready none, by rw [nthB_eq]; simp, ?_⟩
      have hr1 : rec.params.toList = ps.toList := by rw [← hrec]
      have hr2 : rec.tmps = a.tmps := by rw [← hrec]
      exact .lp _ _ _ _ _ _ _ (w.heap.size + 1) rec hβn (by have := hs.wr.hbase; omega) hL hr1 (by rw [← hrec]) (by rw [← hrec]) (by rw [← hrec]) (by rw [← hrec]) (by rw [hr2]; exact hs.tsz)
        (fun t => by rw [hr2]; exact (hs.tr t).ext he hcr) (fun a ha e => by have := hs.wr.zin a ha; omega)
    · have hb' : b < S.bx.length := by have := hb.1; rw [hlen] at this; omega
      obtain ⟨y, hy, hB⟩ := hs.wr.box b ⟨hb', hb.2⟩
      refine ⟨y, by rw [nthB_eq] at hy ⊢; rw [List.getElem?_append_left hb']; exact hy, hB.ext he hcr hb' (fun g hg => hbel.block g (hB.blk_base hg).2) (fun g hg a ha e => .inl ha) id⟩
  · have h1l := h1.1
    have h2l := h2.1
    rw [hlen] at h1l h2l
    have old : ∀ c, c < S.bx.length → c ∉ S.dead → ∀ g, blk (β c) = some g → g < w.heap.size := fun c hc hd g hg => by
      obtain ⟨y, hy, hB⟩ := hs.wr.box c ⟨hc, hd⟩
      exact (hB.blk_base hg).2
    by_cases c1 : b = S.bx.length
    · subst c1
      rw [hβn] at e1
      simp only [blk, Option.some.injEq] at e1
      rw [hβ b' (by omega)] at e2
      have := old b' (by omega) h2.2 g e2
      omega
    · by_cases c2 : b' = S.bx.length
      · subst c2
        rw [hβn] at e2
        simp only [blk, Option.some.injEq] at e2
        rw [hβ b (by omega)] at e1
        have := old b (by omega) h1.2 g e1
        omega
      · rw [hβ b (by omega)] at e1
        rw [hβ b' (by omega)] at e2
        exact hs.wr.dis b b' g ⟨by omega, h1.2⟩ ⟨by omega, h2.2⟩ hne e1 e2
end Go.Vam
