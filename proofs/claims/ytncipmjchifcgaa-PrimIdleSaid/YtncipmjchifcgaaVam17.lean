/- An abstract machine over data (part 17): how a run goes on at calls that are run where they stand, and at ranges over functions. -/
import Derived.Test.YtncipmjchifcgaaVam16
namespace Go.Vam
open Go.RowKit
set_option linter.unusedVariables false
set_option linter.unusedSimpArgs false

/-- What the end of a function that is run where it stands asks: the caller goes on. -/
def InlQ (E : En) (Q : Exit → St → Prop) (tt : TT) (rs : List ResultVar) (nt : Nat) (tm : List (Nat × AV)) (d : Option Nat) (ks : List Fr) : Exit → St → Prop :=
  fun e S => (e = .normal ∨ e = .ret) ∧ ∃ ys, resVs tt S rs = some ys ∧ Go E Q ks ⟨nt, putT tm d (retA ys), S.bx, S.dead, S.fz⟩
/-- What the end of a function that was ranged over asks. -/
def RngQ (E : En) (Q : Exit → St → Prop) (tt : TT) (rs : List ResultVar) (nt : Nat) (tm : List (Nat × AV)) (n : Nat) (ps : List Nat) (assign body : Code) (ks : List Fr) : Exit → St → Prop :=
  fun e S => (e = .normal ∨ e = .ret) ∧ ∃ ys, resVs tt S rs = some ys ∧ ∃ st pe, nthB S.bx n = some (.lp nt tm ps assign body st pe) ∧ st ≠ .busy ∧ n ∉ S.dead ∧
    (match pe with
     | none => Go E Q ks ⟨nt, tm, S.bx, n :: S.dead, S.fz⟩
     | some c => Go E Q (.code c :: ks) ⟨nt, tm, S.bx, n :: S.dead, S.fz⟩)
/-- What the end of a round asks: yield's caller goes on. -/
def YldQ (E : En) (Q : Exit → St → Prop) (nt : Nat) (tm : List (Nat × AV)) (d : Option Nat) (b nt' : Nat) (tm' : List (Nat × AV)) (ps : List Nat) (assign body : Code) (ks : List Fr) : Exit → St → Prop :=
  fun e S => nthB S.bx b = some (.lp nt' tm' ps assign body .busy none) ∧ b ∉ S.dead ∧
    YEnd (fun st pe v => Go E Q ks ⟨nt, putT tm d (.c (.sc (.bool v))), setBx S.bx b (.lp nt' tm' ps assign body st pe), S.dead, S.fz⟩) e
section
variable {E : En} {Q : Exit → St → Prop} {o : Oper} {l : List Oper} {ds : List (Option Nat)} {dr : Dr} {ks : List Fr} {S : St}
theorem InlQ.by {tt : TT} {rs : List ResultVar} {nt : Nat} {tm : List (Nat × AV)} {d : Option Nat} {e : Exit} {ys : List AV} (hE : EOk E) (n : Nat) (he : e = .normal ∨ e = .ret) (hy : resVs tt S rs = some ys)
    (k : evF E Q n ks ⟨nt, putT tm d (retA ys), S.bx, S.dead, S.fz⟩) : InlQ E Q tt rs nt tm d ks e S := ⟨he, ys, hy, evF_sound hE n _ _ k⟩
theorem InlC.code (hE : EOk E) {P : Program} (hP : E.P = P) {tt : TT} (ht : E.tt = tt) {g : FuncId} {fn : Func} {c : Code} {args : List AV} {K : AV → List Bx → List Nat → List Nat → Prop} (hf : P.funcs[g]? = some fn) (hb : fn.body = some c) (hname : (fn.name == "runtime.NumGoroutine") = false)
    (hnt : args.length ≤ fn.ntmps) (h : ∀ E' : En, EOk E' → E'.P = P → E'.tt = tt → E'.n0 = S.bx.length → E'.rd = none → Go E' (fun e S' => (e = .normal ∨ e = .ret) ∧ ∃ ys, resVs tt S' fn.results.toList = some ys ∧ K (retA ys) S'.bx S'.dead S'.fz) [.code c] ⟨fn.ntmps, argsT 0 args, S.bx, S.dead, S.fz⟩) : InlC E g args S K := by
  subst hP; subst ht
  refine InlC.of_body hE hf hb hname hnt fun E' hE' h1 h2 h3 h4 => ?_
  have := h E' hE' h1 h2 h3 h4 (by simp [h3])
  refine AWP.mono this fun e S' hn hq => ?_
  cases e <;> exact hq
theorem Go.inl (hE : EOk E) {P : Program} (hP : E.P = P) {tt : TT} (ht : E.tt = tt) {fo : Operand} {as : Array Operand} {ts : Array TypeId} {g : FuncId} {first caps : List AV} {fn : Func} {c : Code} (ho : o.op = .call { callee := .value fo, args := as, argTypes := ts })
    (hfo : fnOf (evT S.tm fo) = some (g, first, caps)) (hd : dstOk S.nt o.dst = true) (hf : P.funcs[g]? = some fn) (hb : fn.body = some c) (hname : (fn.name == "runtime.NumGoroutine") = false)
    (nt : Nat) (rs : List ResultVar) (hnt : fn.ntmps = nt) (hrs : fn.results.toList = rs) (args : List AV) (hargs : first ++ mapN (evT S.tm) as.toList ++ caps = args) (hl : args.length ≤ nt)
    (h : ∀ E' : En, EOk E' → E'.P = P → E'.tt = tt → E'.n0 = S.bx.length → E'.rd = none → Go E' (InlQ E Q tt rs S.nt S.tm o.dst (.ops 0 l ds none :: ks)) [.code c] ⟨nt, argsT 0 args, S.bx, S.dead, S.fz⟩) : Go E Q (.ops 1 (o :: l) ds none :: ks) S := fun hn => by
  subst hnt; subst hrs; subst hargs
  refine HardOp.opK (K := fun S' => Go E Q (.ops 0 l ds none :: ks) S') (OpK.inl hE ho hfo hd hn ?_) (fun S' h => h) hn
  exact InlC.code hE hP ht hf hb hname hl h
theorem CallG.inl (hE : EOk E) {P : Program} (hP : E.P = P) {tt : TT} (ht : E.tt = tt) {g : FuncId} {raw : List AV} {caps : List (List C)} {fn : Func} {c : Code} (hf : P.funcs[g]? = some fn) (hb : fn.body = some c) (hname : (fn.name == "runtime.NumGoroutine") = false)
    (nt : Nat) (rs : List ResultVar) (hnt : fn.ntmps = nt) (hrs : fn.results.toList = rs) (args : List AV) (hargs : raw ++ mapN .pt caps = args) (hl : args.length ≤ nt)
    (h : ∀ E' : En, EOk E' → E'.P = P → E'.tt = tt → E'.n0 = S.bx.length → E'.rd = none → Go E' (InlQ E Q tt rs S.nt S.tm o.dst (.ops 0 l ds none :: ks)) [.code c] ⟨nt, argsT 0 args, S.bx, S.dead, S.fz⟩) : CallG E Q o l ds none ks S g raw caps := fun hq hd => by
  obtain ⟨fo, as, ts, hop, hfo, hraw⟩ := hq
  subst hraw
  exact Go.inl hE hP ht hop (first := []) (caps := mapN .pt caps) (by rw [hfo]; rfl) hd hf hb hname nt rs hnt hrs args (by simpa using hargs) hl h
theorem CallI.inl (hE : EOk E) {P : Program} (hP : E.P = P) {tt : TT} (ht : E.tt = tt) {g : FuncId} {first raw caps : List AV} {fn : Func} {c : Code} (hf : P.funcs[g]? = some fn) (hb : fn.body = some c) (hname : (fn.name == "runtime.NumGoroutine") = false)
    (nt : Nat) (rs : List ResultVar) (hnt : fn.ntmps = nt) (hrs : fn.results.toList = rs) (args : List AV) (hargs : first ++ raw ++ caps = args) (hl : args.length ≤ nt)
    (h : ∀ E' : En, EOk E' → E'.P = P → E'.tt = tt → E'.n0 = S.bx.length → E'.rd = none → Go E' (InlQ E Q tt rs S.nt S.tm o.dst (.ops 0 l ds none :: ks)) [.code c] ⟨nt, argsT 0 args, S.bx, S.dead, S.fz⟩) : CallI E Q o l ds none ks S g first raw caps := fun hq hd => by
  obtain ⟨fo, as, ts, hop, hfo, hraw⟩ := hq
  subst hraw
  exact Go.inl hE hP ht hop (by rw [hfo]; rfl) hd hf hb hname nt rs hnt hrs args hargs hl h
theorem CloG.by (hE : EOk E) {g : FuncId} {first caps : List AV} (n : Nat) (k : evF E Q n (.ops 0 l ds none :: ks) (S.app o.dst { res := .clo g first caps })) : CloG E Q o l ds none ks S g first caps := fun hq hd hn => by
  obtain ⟨f, c, hop, h1, h2⟩ := hq
  refine HardOp.opK (K := fun S' => S' = S.app o.dst { res := .clo g first caps }) (fun Z β a w hs => ?_) (fun S' e => by subst e; exact evF_sound hE n _ _ k) hn
  have hA : ∀ (xs : Array Operand) (i : Nat) (x : AV) (v : Value), (mapN (evT S.tm) xs.toList)[i]? = some x → (xs.map a.eval)[i]? = some v → AR Z w β (fun b => b < S.bx.length) x v := fun xs i x v e1 e2 => by
    rw [mapN_eq, List.getElem?_map] at e1
    rw [Array.getElem?_map] at e2
    cases hx : xs[i]? with
    | none => rw [hx] at e2; simp at e2
    | some y =>
      rw [Array.getElem?_toList, hx] at e1
      rw [hx] at e2
      simp only [Option.map_some, Option.some.injEq] at e1 e2
      subst e1; subst e2
      exact hs.evT y
  refine OpRun.value (v := .func (.func g) (f.map a.eval) (c.map a.eval)) (w' := w) (by simp [execOp, hop, Instr.makeFunc]) ?_
  refine After.behind hs hn hd hs.w (.refl _ _ _ _) (Nat.le_refl _) ?_ rfl
  subst h1; subst h2
  exact .clo g _ _ _ _ (by simp [mapN_eq]) (by simp [mapN_eq]) (hA f) (hA c)
theorem Rng.by (hE : EOk E) {P : Program} (hP : E.P = P) {tt : TT} (ht : E.tt = tt) (hrd : E.rd = none) {fo : Operand} {ps : Array Tmp} {assign body : Code} {g : FuncId} {first caps : List AV} {fn : Func} {c : Code}
    (hfo : fnOf (evT S.tm fo) = some (g, first, caps)) (hf : P.funcs[g]? = some fn) (hb : fn.body = some c) (hname : (fn.name == "runtime.NumGoroutine") = false)
    (nt : Nat) (rs : List ResultVar) (hnt : fn.ntmps = nt) (hrs : fn.results.toList = rs) (args : List AV) (hargs : first ++ [.yld S.bx.length] ++ caps = args) (hl : args.length ≤ nt)
    (h : ∀ (E' : En) (tm' : List (Nat × AV)) (ps' : List Nat) (as' bd' : Code), EOk E' → E'.P = P → E'.tt = tt → E'.n0 = S.bx.length + 1 → E'.rd = none → tm' = S.tm → ps' = ps.toList → as' = assign → bd' = body → Go E' (RngQ E Q tt rs S.nt tm' S.bx.length ps' as' bd' ks) [.code c] ⟨nt, argsT 0 args, S.bx ++ [.lp S.nt tm' ps' as' bd' .ready none], S.dead, S.fz⟩) :
    Go E Q (.code (.rangeFunc fo ps assign body) :: ks) S := fun hn => by
  subst hnt; subst hrs; subst hargs
  refine AWP.range hE hrd hn hfo (InlC.code (S := ⟨S.nt, S.tm, S.bx ++ [.lp S.nt S.tm ps.toList assign body .ready none], S.dead, S.fz⟩) hE hP ht hf hb hname hl fun E' hE' h1 h2 h3 h4 => ?_)
  have := h E' S.tm ps.toList assign body hE' h1 h2 (by rw [h3]; simp) h4 rfl rfl rfl rfl
  intro hn'
  refine AWP.mono (this hn') fun e S' hn2 hq => ?_
  have main : ∀ e, RngQ E Q tt fn.results.toList S.nt S.tm S.bx.length ps.toList assign body ks e S' → ((e = .normal ∨ e = .ret) ∧ ∃ ys, resVs tt S' fn.results.toList = some ys ∧ ∃ st pe, nthB S'.bx S.bx.length = some (.lp S.nt S.tm ps.toList assign body st pe) ∧ st ≠ .busy ∧ S.bx.length ∉ S'.dead ∧
      (match pe with
       | none => GoK E Q ks .normal ⟨S.nt, S.tm, S'.bx, S.bx.length :: S'.dead, S'.fz⟩
       | some c => AWP E c ⟨S.nt, S.tm, S'.bx, S.bx.length :: S'.dead, S'.fz⟩ (GoK E Q ks))) := fun e hq => by
    obtain ⟨he, ys, hy, st, pe, q1, q2, q3, q4⟩ := hq
    have hlen : E.n0 ≤ S'.bx.length := by rw [h3] at hn2; simp at hn2; omega
    refine ⟨he, ys, hy, st, pe, q1, q2, q3, ?_⟩
    cases pe with
    | none => exact q4 hlen
    | some c => exact q4 hlen
  cases e <;> exact main _ hq
theorem RngQ.by {tt : TT} {rs : List ResultVar} {nt : Nat} {tm : List (Nat × AV)} {n : Nat} {ps : List Nat} {assign body : Code} {e : Exit} {ys : List AV} {st : LoopState} (hE : EOk E) (m : Nat) (he : e = .normal ∨ e = .ret) (hy : resVs tt S rs = some ys)
    (hb : nthB S.bx n = some (.lp nt tm ps assign body st none)) (hst : st ≠ .busy) (hd : memB n S.dead = false) (k : evF E Q m ks ⟨nt, tm, S.bx, n :: S.dead, S.fz⟩) : RngQ E Q tt rs nt tm n ps assign body ks e S :=
  ⟨he, ys, hy, st, none, hb, hst, memB_not (by rw [hd]; simp), evF_sound hE m _ _ k⟩
theorem RngQ.jump {tt : TT} {rs : List ResultVar} {nt : Nat} {tm : List (Nat × AV)} {n : Nat} {ps : List Nat} {assign body c : Code} {e : Exit} {ys : List AV} {st : LoopState} (hE : EOk E) (m : Nat) (he : e = .normal ∨ e = .ret) (hy : resVs tt S rs = some ys)
    (hb : nthB S.bx n = some (.lp nt tm ps assign body st (some c))) (hst : st ≠ .busy) (hd : memB n S.dead = false) (k : evF E Q m (.code c :: ks) ⟨nt, tm, S.bx, n :: S.dead, S.fz⟩) : RngQ E Q tt rs nt tm n ps assign body ks e S :=
  ⟨he, ys, hy, st, some c, hb, hst, memB_not (by rw [hd]; simp), evF_sound hE m _ _ k⟩
/-- Behind the assignment to a round's variables. -/
def AsgQ (E' E : En) (Q : Exit → St → Prop) (nt : Nat) (tm : List (Nat × AV)) (d : Option Nat) (b nt' : Nat) (tm' : List (Nat × AV)) (ps : List Nat) (assign body : Code) (ks : List Fr) : Exit → St → Prop :=
  fun e S1 => e = .normal ∧ nthB S1.bx b = some (.lp nt' tm' ps assign body .ready none) ∧ b ∉ S1.dead ∧ Go E' (YldQ E Q nt tm d b nt' tm' ps assign body ks) [.code body] (setLp S1 b (.lp nt' tm' ps assign body .busy none))
theorem AsgQ.by {E' : En} {nt : Nat} {tm : List (Nat × AV)} {d : Option Nat} {b nt' : Nat} {tm' : List (Nat × AV)} {ps : List Nat} {assign body : Code} (hE' : EOk E') (n : Nat) (hb : nthB S.bx b = some (.lp nt' tm' ps assign body .ready none)) (hd : memB b S.dead = false)
    (k : evF E' (YldQ E Q nt tm d b nt' tm' ps assign body ks) n [.code body] (setLp S b (.lp nt' tm' ps assign body .busy none))) : AsgQ E' E Q nt tm d b nt' tm' ps assign body ks .normal S :=
  ⟨rfl, hb, memB_not (by rw [hd]; simp), evF_sound hE' n _ _ k⟩
theorem YldQ.normal {nt : Nat} {tm : List (Nat × AV)} {d : Option Nat} {b nt' : Nat} {tm' : List (Nat × AV)} {ps : List Nat} {assign body : Code} (hE : EOk E) (n : Nat) (hb : nthB S.bx b = some (.lp nt' tm' ps assign body .busy none)) (hd : memB b S.dead = false)
    (k : evF E Q n ks ⟨nt, putT tm d (.c (.sc (.bool true))), setBx S.bx b (.lp nt' tm' ps assign body .ready none), S.dead, S.fz⟩) : YldQ E Q nt tm d b nt' tm' ps assign body ks .normal S :=
  ⟨hb, memB_not (by rw [hd]; simp), evF_sound hE n _ _ k⟩
theorem YldQ.ret {nt : Nat} {tm : List (Nat × AV)} {d : Option Nat} {b nt' : Nat} {tm' : List (Nat × AV)} {ps : List Nat} {assign body : Code} (hE : EOk E) (n : Nat) (hb : nthB S.bx b = some (.lp nt' tm' ps assign body .busy none)) (hd : memB b S.dead = false)
    (k : evF E Q n ks ⟨nt, putT tm d (.c (.sc (.bool false))), setBx S.bx b (.lp nt' tm' ps assign body .done (some .ret)), S.dead, S.fz⟩) : YldQ E Q nt tm d b nt' tm' ps assign body ks .ret S :=
  ⟨hb, memB_not (by rw [hd]; simp), evF_sound hE n _ _ k⟩
theorem YldQ.exit {id : Nat} {nt : Nat} {tm : List (Nat × AV)} {d : Option Nat} {b nt' : Nat} {tm' : List (Nat × AV)} {ps : List Nat} {assign body : Code} (hE : EOk E) (n : Nat) (hb : nthB S.bx b = some (.lp nt' tm' ps assign body .busy none)) (hd : memB b S.dead = false)
    (k : evF E Q n ks ⟨nt, putT tm d (.c (.sc (.bool false))), setBx S.bx b (.lp nt' tm' ps assign body .done (some (.exit id))), S.dead, S.fz⟩) : YldQ E Q nt tm d b nt' tm' ps assign body ks (.exit id) S :=
  ⟨hb, memB_not (by rw [hd]; simp), evF_sound hE n _ _ k⟩
theorem YldG.by (hE : EOk E) {P : Program} (hP : E.P = P) {tt : TT} (ht : E.tt = tt) {b nt : Nat} {tm : List (Nat × AV)} {ps : List Nat} {assign body : Code} {raw : List AV} (hb : memB b S.dead = false) (hbx : nthB S.bx b = some (.lp nt tm ps assign body .ready none)) (hsz : raw.length = ps.length) (hps : ∀ p ∈ ps, p < nt)
    (h : ∀ E' : En, EOk E' → E'.P = P → E'.tt = tt → E'.n0 = S.bx.length → Go E' (AsgQ E' E Q S.nt S.tm o.dst b nt tm ps assign body (.ops 0 l ds none :: ks)) [.code assign] ⟨nt, zipT ps raw tm, S.bx, S.dead, S.fz⟩) : YldG E Q o l ds none ks S b raw := fun hq hd hn => by
  obtain ⟨fo, as, ts, hop, hfo, hraw⟩ := hq
  subst hraw; subst hP; subst ht
  refine HardOp.opK (K := fun S' => Go E Q (.ops 0 l ds none :: ks) S') (OpK.yield hE hop hfo hd hn (memB_not (by rw [hb]; simp)) hbx (by simpa [mapN_eq] using hsz) hps fun E' hE' h1 h2 h3 => ?_) (fun S' h => h) hn
  refine AWP.mono (h E' hE' h1 h2 h3 (by simp [h3])) fun e S1 hn1 hq1 => ?_
  have q : AsgQ E' E Q S.nt S.tm o.dst b nt tm ps assign body (.ops 0 l ds none :: ks) e S1 := by cases e <;> exact hq1
  obtain ⟨he, q1, q2, q3⟩ := q
  refine ⟨he, q1, q2, AWP.mono (q3 (by simpa [setLp, setBx_eq] using hn1)) fun e2 S2 hn2 hq2 => ?_⟩
  have r : YldQ E Q S.nt S.tm o.dst b nt tm ps assign body (.ops 0 l ds none :: ks) e2 S2 := by cases e2 <;> exact hq2
  exact r
theorem Go.nilC {c : Code} (b k e sz : Nat) {cs : List AV} (hb : nthB S.bx b = some (.cells cs)) (hk : nthX cs k = some .nil)
    (h : Go E Q (.code c :: ks) ⟨S.nt, S.tm, setBx S.bx b (.cells (cs.set k (.own S.bx.length))) ++ [.rows e sz []], S.dead, S.fz⟩) : Go E Q (.code c :: ks) S := fun hn =>
  AWP.nilC b k e sz hb (by rw [← nthX_eq]; exact hk) hn (h (by simp [setBx_eq]; omega))
theorem Go.nilT {c : Code} (t e sz : Nat) (ht : look S.tm t = .nil)
    (h : Go E Q (.code c :: ks) ⟨S.nt, (t, .own S.bx.length) :: S.tm, S.bx ++ [.rows e sz []], S.dead, S.fz⟩) : Go E Q (.code c :: ks) S := fun hn =>
  AWP.nilT t e sz ht hn (h (by simp; omega))
end
end Go.Vam
