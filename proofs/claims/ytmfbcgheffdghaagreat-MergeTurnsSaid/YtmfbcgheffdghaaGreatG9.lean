/- An abstract machine over data (part 24): functions of the model's own upon plain values. -/
import Derived.Test.YtmfbcgheffdghaaGreatG8
import Derived.Lib.Bytealg
import Derived.Laws.Externs
set_option linter.unusedSimpArgs false
set_option linter.unusedVariables false
namespace Go.Vam
open Go.RowKit
set_option linter.unusedVariables false
set_option linter.unusedSimpArgs false
def ExtOk (P : Program) (g : FuncId) (vs : List Value) (u : Value) : Prop := ∀ w, (callFunc g vs.toArray).run P w = .ok (.value u) w
section
variable {E : En} {Q : Exit → St → Prop} {o : Oper} {l : List Oper} {ds : List (Option Nat)} {ks : List Fr} {S : St}
theorem OpK.ofPost {K : St → Prop} {e : Eff} (hn : E.n0 ≤ S.bx.length) (hd : dstOk S.nt o.dst = true) (hfr : ∀ b ∈ e.frz, b < S.bx.length ∨ (b = S.bx.length ∧ e.nw.isSome = true)) (hk : ∀ b ∈ e.kill, b < S.bx.length)
    (h : ∀ Z β a w, Sim E S Z β a w → WR E.base w Z β (fun b => b < S.bx.length) (fun b => b < S.bx.length ∧ b ∉ S.dead) (fun b => b ∈ S.fz) (nthB (S.app o.dst e).bx) w →
      OpRun E.P o a w (Post E.base w Z β (fun b => b < S.bx.length) (fun b => b < S.bx.length ∧ b ∉ S.dead) (fun b => b ∈ S.fz) (nthB (S.app o.dst e).bx) S.bx.length e w))
    (hK : K (S.app o.dst e)) : OpK E o S K := fun Z β a w hs => by
  have hW : WR E.base w Z β (fun b => b < S.bx.length) (fun b => b < S.bx.length ∧ b ∉ S.dead) (fun b => b ∈ S.fz) (nthB (S.app o.dst e).bx) w := hs.wr.rebase.mono (fun _ h => h) (fun _ h => h) (fun _ h => h) (fun b hb => app_bx S o.dst e b hb.1)
  refine (h Z β a w hs hW).mono fun v w' hp => ?_
  obtain ⟨Z', β', h1, h2, h3⟩ := hs.put hd hp hfr hk
  exact ⟨_, Z', β', h1, h2.mono hn, Nat.le_trans hn h3, hK⟩
theorem CallG.ext (hE : EOk E) {P : Program} (hP : E.P = P) {g : FuncId} {vs : List Value} {raw : List AV} {u : Value} (n : Nat) (hx : ExtOk P g vs u) (hu : isSc u = true) (hr : raw = vs.map fun v => .c (.sc v))
    (k : evF E Q n (.ops 0 l ds none :: ks) (S.app o.dst { res := .c (.sc u) })) : CallG E Q o l ds none ks S g raw [] := fun hf hdst hn => by
  obtain ⟨fo, az, ts, hop, hfo, hraw⟩ := hf
  refine HardOp.opK (K := fun S' => S' = S.app o.dst { res := .c (.sc u) }) (OpK.ofPost hn hdst (by simp) (by simp) (fun Z β a w hs hW => ?_) rfl) (fun S' h => by subst h; exact evF_sound hE n _ _ k) hn
  have e1 := hs.evT fo
  rw [hfo] at e1
  have hvs : az.map a.eval = vs.toArray := by
    apply Array.ext'
    rw [mapN_eq, hr] at hraw
    rw [Array.toList_map]
    refine List.ext_getElem? fun i => ?_
    have hi := congrArg (fun l => l[i]?) hraw
    simp only [List.getElem?_map] at hi ⊢
    cases h1 : az.toList[i]? with
    | none => rw [h1] at hi; cases h2 : vs[i]? with
      | none => rfl
      | some v => rw [h2] at hi; simp at hi
    | some x => rw [h1] at hi; cases h2 : vs[i]? with
      | none => rw [h2] at hi; simp at hi
      | some v =>
        rw [h2] at hi
        simp only [Option.map_some, Option.some.injEq] at hi
        have e2 := hs.evT x
        rw [hi] at e2
        simp only [Option.map_some]
        rw [e2.sc_inv.1]
  have hfn : CR Z w (.fn g []) (a.eval fo) := by generalize hq : a.eval fo = q at e1; cases e1 with | c x v h => exact h
  generalize hq : a.eval fo = q at hfn
  cases hfn with
  | fn g caps ps vals hpl hpc hpv =>
    have hps : ps = [] := List.eq_nil_of_length_eq_zero hpl
    subst hps
    refine .value (v := u) (w' := w) ?_ (.quiet hW (.refl _ _) (.c _ _ (.sc _ hu)))
    have h2 := hx w
    rw [← hP] at h2
    simp only [execOp, hop, resolve, hq, Deferred.ofValue, invoke, Sem.run_bind, Sem.run_pure, Result.andThen_ok, Array.empty_append, List.map_nil, Array.append_empty, hvs, h2]
theorem indexByte_ok {P : Program} {g : FuncId} {fn : Func} (hf : P.funcs[g]? = some fn) (h1 : (fn.name == "runtime.NumGoroutine") = false) (h2 : fn.body.isNone = true) (h3 : Extern.findNext fn = none) (h4 : Extern.find fn = some Extern.BytealgIndexByte.indexByte) (s : ByteArray) (c : Int) :
    ExtOk P g [.string s, .int .u8 c] (.int .i64 (Lib.indexByte s.data.toList c.toNat.toUInt8)) := fun w => by
  rw [run_callFunc_extern hf h1 h2 h3 h4, Lib.run_indexByteString]
  rfl
end
/-- Two things are told. -/
theorem RetQ.two {tt : TT} {t1 t2 : Nat} {e : Exit} {S : St} {x y x' y' : AV} (he : e = .normal ∨ e = .ret) (h1 : look S.tm t1 = x) (h2 : look S.tm t2 = y) (hd : deadFree S.dead (frzL [x, y]) = true) (hz : [x', y'] = thawL S.bx [x, y]) :
    RetQ tt [.tmp t1, .tmp t2] (.v (.tup [x', y'])) e S := by
  refine ⟨he, [x, y], by simp only [resVs, resV, h1, h2], .inl ⟨fun b hb => ?_, ?_⟩⟩
  · rw [frzL_eq] at hd
    exact deadFree_spec hd b hb
  · rw [hz, thawL_eq]
theorem RetQ.three {tt : TT} {t1 t2 t3 : Nat} {e : Exit} {S : St} {x y z x' y' z' : AV} (he : e = .normal ∨ e = .ret) (h1 : look S.tm t1 = x) (h2 : look S.tm t2 = y) (h3 : look S.tm t3 = z) (hd : deadFree S.dead (frzL [x, y, z]) = true)
    (hz : [x', y', z'] = thawL S.bx [x, y, z]) : RetQ tt [.tmp t1, .tmp t2, .tmp t3] (.v (.tup [x', y', z'])) e S := by
  refine ⟨he, [x, y, z], by simp only [resVs, resV, h1, h2, h3], .inl ⟨fun b hb => ?_, ?_⟩⟩
  · rw [frzL_eq] at hd
    exact deadFree_spec hd b hb
  · rw [hz, thawL_eq]
end Go.Vam

