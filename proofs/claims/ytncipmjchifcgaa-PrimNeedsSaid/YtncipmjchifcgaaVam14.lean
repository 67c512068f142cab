/- An abstract machine over data (part 14): contracts out of runs, loops in runs. -/
import Derived.Test.YtncipmjchifcgaaVam13
namespace Go.Vam
open Go.RowKit
set_option linter.unusedVariables false
set_option linter.unusedSimpArgs false

/-- What a function's end asks. -/
def RetQ (tt : TT) (res : List ResultVar) (r : Ret) : Exit → St → Prop := fun e S => (e = .normal ∨ e = .ret) ∧ RetK tt S res r
theorem Ok.code {P : Program} {tt : TT} (hT : TOk P tt) (hm : P.follows .mixedOrders = true) {f : FuncId} {fn : Func} {c : Code} {args : List AV} {r : Ret} (hf : P.funcs[f]? = some fn) (hb : fn.body = some c) (hname : (fn.name == "runtime.NumGoroutine") = false)
    (nt : Nat) (rs : List ResultVar) (hnt : fn.ntmps = nt) (hrs : fn.results.toList = rs) (hl : args.length ≤ nt) (h : ∀ E : En, EOk E → E.P = P → E.tt = tt → E.n0 = 0 → E.rd = none → Go E (RetQ tt rs r) [.code c] ⟨nt, argsT 0 args, [], [], []⟩) : Ok P f args r := by
  subst hnt; subst hrs
  refine Ok.of_body hT hf hb hname hl fun E hP ht h0 hrd hb1 hb2 => ?_
  have := h E ⟨by rw [hP, ht]; exact hT, by rw [hP]; exact hm, hb1, hb2⟩ hP ht h0 hrd (by simp [h0])
  refine AWP.mono this fun e S hn hq => ?_
  cases e <;> exact hq
theorem RetQ.val {tt : TT} {t : Nat} {e : Exit} {S : St} {x z : AV} (he : e = .normal ∨ e = .ret) (hx : look S.tm t = x) (hd : deadFree S.dead (frzOf x) = true) (hz : thawF (nthB S.bx) x = z) : RetQ tt [.tmp t] (.v z) e S :=
  ⟨he, x, by simp only [resV, hx], deadFree_spec hd, hz.symm⟩
theorem RetQ.own {tt : TT} {t b e' sz : Nat} {rs : List (List C)} {e : Exit} {S : St} (he : e = .normal ∨ e = .ret) (hx : look S.tm t = .own b) (hd : memB b S.dead = false) (hf : memB b S.fz = false) (hb : nthB S.bx b = some (.rows e' sz rs)) : RetQ tt [.tmp t] (.own e' sz rs) e S :=
  ⟨he, .own b, by simp only [resV, hx], memB_not (by rw [hd]; simp), memB_not (by rw [hf]; simp), hb⟩
theorem RetQ.nil {tt : TT} {t e' sz : Nat} {e : Exit} {S : St} (he : e = .normal ∨ e = .ret) (hx : look S.tm t = .nil) : RetQ tt [.tmp t] (.own e' sz []) e S :=
  ⟨he, .nil, by simp only [resV, hx], rfl⟩
theorem RetQ.bool {tt : TT} {t : Nat} {e : Exit} {S : St} {b b' : Bool} (he : e = .normal ∨ e = .ret) (hx : look S.tm t = .c (.sc (.bool b))) (hb : b = b') : RetQ tt [.tmp t] (.v (.c (.sc (.bool b')))) e S := by
  subst hb
  exact .val he hx rfl rfl
theorem RetQ.c {tt : TT} {t : Nat} {e : Exit} {S : St} {x y : C} (he : e = .normal ∨ e = .ret) (hx : look S.tm t = .c x) (hb : x = y) : RetQ tt [.tmp t] (.v (.c y)) e S := by
  subst hb
  exact .val he hx rfl rfl
theorem RetQ.agg {tt : TT} {t : Nat} {e : Exit} {S : St} {x y : List C} (he : e = .normal ∨ e = .ret) (hx : look S.tm t = .agg x) (hb : x = y) : RetQ tt [.tmp t] (.v (.agg y)) e S := by
  subst hb
  exact .val he hx rfl rfl
theorem RetQ.ownV {tt : TT} {t b e' sz : Nat} {rs rs' : List (List C)} {e : Exit} {S : St} (he : e = .normal ∨ e = .ret) (hx : look S.tm t = .own b) (hd : memB b S.dead = false) (hb : nthB S.bx b = some (.rows e' sz rs)) (hr : rs = rs') : RetQ tt [.tmp t] (.v (.c (.sl rs'))) e S := by
  subst hr
  refine .val he hx ?_ ?_
  · simp [frzOf, deadFree, hd]
  · simp [thawF, hb]
/-- A struct that is told out of its variable. -/
theorem RetQ.cell {tt : TT} {t ty b off : Nat} {i : TyI} {cs : List AV} {cs' : List C} {e : Exit} {S : St} (he : e = .normal ∨ e = .ret) (hx : look S.tm t = .ptr b off) (hi : tt ty = some i) (hd : memB b S.dead = false) (hb : nthB S.bx b = some (.cells cs))
    (hag : i.ag = true) (hn : Nat.ble 1 i.n = true) (hl : hasN cs (off + i.n) = true) (hc : allB isC (takeN i.n (dropN off cs)) = true) (hr : mapN toC (takeN i.n (dropN off cs)) = cs') : RetQ tt [.cell t ty] (.v (.agg cs')) e S := by
  refine ⟨he, .agg cs', ?_, by simp [frzOf], rfl⟩
  simp only [resV, hx, hi]
  rw [if_neg (memB_not (by rw [hd]; simp)), hb]
  simp only
  rw [allB_eq, takeN_eq, dropN_eq] at hc
  rw [if_pos ⟨hasN_spec _ _ hl, Nat.le_of_ble_eq_true hn, fun h => by rw [hag] at h; simp at h, fun _ => hc⟩, if_pos hag, ← hr, mapN_eq, takeN_eq, dropN_eq]

/-! ### Loops -/
theorem wrap64 {n : Int} (h1 : -9223372036854775808 ≤ n) (h2 : n ≤ 9223372036854775807) : IntKind.i64.wrap n = n := by
  rw [IntKind.wrap_i64]
  omega
theorem wrapN (i : Nat) (h : i < 9223372036854775807) : IntKind.i64.wrap ((i : Int) + 1) = (i : Int) + 1 := wrap64 (by omega) (by omega)
theorem wrapP (i : Int) (h0 : 0 ≤ i) (h : i ≤ 9223372036854775807) : IntKind.i64.wrap (i - 1) = i - 1 := wrap64 (by omega) (by omega)
theorem Loop.by {ι : Type} {E : En} (hE : EOk E) {Q : Exit → St → Prop} {c : Code} {ks : List Fr} {S : St} (I : ι → St) (μ : ι → Nat) (i0 : ι) (n : Nat) (h0 : ∃ σ, Wk E.n0 S (I i0) σ) (hn : ∀ i, E.n0 ≤ (I i).bx.length)
    (round : ∀ i, evF E Q n (.code c :: .lp (fun S' => ∃ j σ, Wk E.n0 S' (I j) σ ∧ μ j < μ i) :: ks) (I i)) : Go E Q (.code (.loop c) :: ks) S := fun _ =>
  AWP.loop I μ i0 h0 fun i => AWP.mono (evF_sound hE n _ _ (round i) (hn i)) fun e S' hn' hq => by
    cases e <;> exact hq
theorem Wk.of {S S' : St} {n0 : Nat} {σ : List Nat} (nt : S'.nt = S.nt) (nod : σ.Nodup) (fix : fixB n0 σ 0) (tm : wkT S'.bx.length σ S.tm S'.tm) (bx : wkBs S'.bx.length σ S S' 0 σ S'.bx) (fl : ∀ b ∈ S'.fz, b < S'.bx.length) (dl : ∀ b ∈ S'.dead, b < S'.bx.length) : Wk n0 S S' σ := ⟨nt, nod, fix, tm, bx, fl, dl⟩
section
variable {E : En} {Q : Exit → St → Prop} {o : Oper} {l : List Oper} {ds : List (Option Nat)} {dr : Dr} {ks : List Fr} {S : St}
theorem IdxR.nat (hE : EOk E) {α : Type} {f : α → List C} {xs : List α} {sz i : Nat} (n : Nat) (hi : i < xs.length) (hl : (f xs[i]).length = sz)
    (k : evF E Q n (.ops 0 l ds (advT dr o S { res := .pt (f xs[i]) }) :: ks) (S.app o.dst { res := .pt (f xs[i]) })) : IdxR E Q o l ds dr ks S (xs.map f) sz (i : Int) :=
  IdxR.by hE n (by omega) (by simp [hi]) hl k
theorem OpK.isNil (hE : EOk E) {rows : List (List C)} {K : St → Prop} (hf : ∃ t x' y u i e, o.op = .binOp .eql t x' y u ∧ E.tt t = some i ∧ i.sl = some e ∧ evT S.tm x' = .c (.sl rows) ∧ evT S.tm y = .nil) (hdst : dstOk S.nt o.dst = true) (hn : E.n0 ≤ S.bx.length)
    (hK : ∀ b : Bool, (b = true → rows = []) → K (S.app o.dst { res := .c (.sc (.bool b)) })) : OpK E o S K := fun Z β a w hs => by
  obtain ⟨t, x', y, u, i, e, hop, hi, hsl, hx, hy⟩ := hf
  have hx' := hs.evT x'
  have hy' := hs.evT y
  rw [hx] at hx'
  rw [hy] at hy'
  refine op_isNil hop ((tyOk_spec (hE.hT t i hi)).2.2.1 e hsl) hx' hy' fun b hb => ?_
  have hp : Post E.base w Z β (fun b => b < S.bx.length) (fun b => b < S.bx.length ∧ b ∉ S.dead) (fun b => b ∈ S.fz) (nthB (S.app o.dst { res := .c (.sc (.bool b)) }).bx) S.bx.length { res := .c (.sc (.bool b)) } w (.bool b) w :=
    ⟨Z, β, .refl _ _, fun _ _ => rfl, fun a h1 h2 => absurd h1 h2, hs.wr.rebase.mono (fun _ h => .inl h) (fun b h => by
      rcases h with h | h
      · exact h.1
      · simp at h) (fun _ h => .inl h) (fun b _ => rfl), .c _ _ (.sc _ rfl)⟩
  obtain ⟨Z', β', h1, h2, h3⟩ := hs.put hdst hp (by simp) (by simp)
  exact ⟨_, Z', β', h1, h2.mono hn, Nat.le_trans hn h3, hK b hb⟩
theorem IsNilG.sl (hE : EOk E) {rows : List (List C)} (n : Nat) (k : ∀ b : Bool, (b = true → rows = []) → evF E Q n (.ops 0 l ds none :: ks) (S.app o.dst { res := .c (.sc (.bool b)) })) : IsNilG E Q o l ds none ks S (.c (.sl rows)) := fun hf hdst hn =>
  HardOp.opK (K := fun S' => ∃ b : Bool, (b = true → rows = []) ∧ S' = S.app o.dst { res := .c (.sc (.bool b)) }) (OpK.isNil hE hf hdst hn fun b hb => ⟨b, hb, rfl⟩) (fun S' ⟨b, hb, e⟩ => by subst e; exact evF_sound hE n _ _ (k b hb)) hn
end
end Go.Vam
