/- An abstract machine over data (part 21): copies of rows. -/
import Derived.Test.YtmfbcgheffdghaaGreatG6
import Derived.Laws.CopyRow
set_option linter.unusedSimpArgs false
set_option linter.unusedVariables false
namespace Go.Vam
open Go.RowKit
set_option linter.unusedVariables false
set_option linter.unusedSimpArgs false
variable {P : Program}
theorem run_copy_sz (w : World) (dT sT ty elem : TypeId) (i : TypeInfo) (g o dLen dCap : Nat) (a : Addr) (sLen sCap : Nat) (cur : Array Value) (t : TypeId) (cs : List Value)
    (hu : P.underlying dT = some (.slice elem)) (hi : P.info? elem = some i) (hg : w.heap[g]? = some (.cells cur t (0, 0))) (hn : cs.length = Nat.min sLen dLen * i.size)
    (hsrc : ∀ (j : Nat) (v : Value), cs[j]? = some v → w.cell? (a.add j) = some v) (hfit : o + cs.length ≤ cur.size) (h1 : ∀ v ∈ cs, v.oneCell' = true) :
    (Builtin.copy_ #[dT, sT] ty #[.slice (some ⟨g, o, none⟩) dLen dCap, .slice (some a) sLen sCap]).run P w =
      .ok (goInt (Nat.min sLen dLen)) (w.setRow g (cur.toList.take o ++ cs ++ cur.toList.drop (o + cs.length)).toArray) := by
  have hl := run_loadCells_list (P := P) w a cs hsrc
  have hst := run_storeCells_at P g o t cs 0 cur w hg (by simpa using hfit) h1
  simp [Builtin.copy_, run_underlying hu, Builtin.lenOf, Builtin.firstCells, sizeOf, typeInfo, hi, ← hn, hl, hst]
end Go.Vam

/- An abstract machine over data (part 22): calls that take a list of one's own and give it back changed. -/
namespace Go.Vam
open Go.RowKit
set_option linter.unusedVariables false
set_option linter.unusedSimpArgs false

section
variable {E : En} {Q : Exit → St → Prop} {o : Oper} {l : List Oper} {ds : List (Option Nat)} {dr : Dr} {ks : List Fr} {S : St}
theorem CallG.x (hE : EOk E) {P : Program} (hP : E.P = P) {g : FuncId} {raw : List AV} {caps : List (List C)} {e : Eff} (n : Nat) (h : CallX P (nthB S.bx) S.dead S.fz g caps raw S.bx.length (fun e' => e' = e))
    (k : evF E Q n (.ops 0 l ds (advT dr o S e) :: ks) (S.app o.dst e)) : CallG E Q o l ds dr ks S g raw caps := fun hf hdst => by
  obtain ⟨fo, as, ts, hop, hfo, hraw⟩ := hf
  refine GoK.loc hE ?_ hdst (evF_sound hE n _ _ k)
  unfold LoclS Locl
  rw [hop]
  simp only [hfo]
  refine .inr ?_
  rw [← mapN_eq (evT S.tm), hraw, hP]
  exact h
/-- slices.Insert, where it stands. -/
theorem CallG.ins (hE : EOk E) {P : Program} (hP : E.P = P) {g e sz bytes b b2 i : Nat} {rs : List (List C)} {row2 : List C} (n : Nat) (hI : InsOk P g e sz bytes) (hb : nthB S.bx b = some (.rows e sz rs)) (hd : memB b S.dead = false) (hf : memB b S.fz = false)
    (hb2 : nthB S.bx b2 = some (.rows e sz [row2])) (hd2 : memB b2 S.dead = false) (hne : b ≠ b2) (hi : i ≤ rs.length) (hby : (rs.length + 1) * bytes ≤ 140737488355328)
    (k : evF E Q n (.ops 0 l ds (advT dr o S { res := .own S.bx.length, nw := some (.rows e sz (rs.take i ++ [row2] ++ rs.drop i)), kill := [b] }) :: ks) (S.app o.dst { res := .own S.bx.length, nw := some (.rows e sz (rs.take i ++ [row2] ++ rs.drop i)), kill := [b] })) :
    CallG E Q o l ds dr ks S g [.own b, .c (.sc (.int .i64 i)), .own b2] [] :=
  CallG.x hE hP n (.inl ⟨e, sz, bytes, b, b2, i, rs, row2, rfl, rfl, hI, ⟨memB_not (by rw [hd]; simp), memB_not (by rw [hf]; simp), memB_not (by rw [hd2]; simp), hne⟩, hb, hb2, hi, hby, rfl⟩) k
/-- slices.Delete of one thing, where it stands. -/
theorem CallG.del (hE : EOk E) {P : Program} (hP : E.P = P) {g e sz b i : Nat} {rs : List (List C)} (n : Nat) (hI : DelOk P g e sz) (hb : nthB S.bx b = some (.rows e sz rs)) (hd : memB b S.dead = false) (hf : memB b S.fz = false) (hi : i < rs.length)
    (k : evF E Q n (.ops 0 l ds (advT dr o S { res := .own S.bx.length, nw := some (.rows e sz (rs.take i ++ rs.drop (i + 1))), kill := [b] }) :: ks) (S.app o.dst { res := .own S.bx.length, nw := some (.rows e sz (rs.take i ++ rs.drop (i + 1))), kill := [b] })) :
    CallG E Q o l ds dr ks S g [.own b, .c (.sc (.int .i64 i)), .c (.sc (.int .i64 ((i : Int) + 1)))] [] :=
  CallG.x hE hP n (.inr (.inl ⟨e, sz, b, i, rs, rfl, rfl, hI, ⟨memB_not (by rw [hd]; simp), memB_not (by rw [hf]; simp)⟩, hb, hi, rfl⟩)) k
/-- A call that only reads: what it is handed stays one's own. -/
theorem CallG.rd (hE : EOk E) {P : Program} (hP : E.P = P) {g : FuncId} {raw : List AV} {caps : List (List C)} {u : Value} {args : List AV} (n : Nat) (hok : Ok P g args (.v (.c (.sc u)))) (hu : isSc u = true) (hargs : thawL S.bx raw ++ mapN .pt caps = args) (hd : deadFree S.dead (frzL raw) = true)
    (k : evF E Q n (.ops 0 l ds (advT dr o S { res := .c (.sc u) }) :: ks) (S.app o.dst { res := .c (.sc u) })) : CallG E Q o l ds dr ks S g raw caps :=
  CallG.x hE hP n (.inr (.inr ⟨by rw [← frzL_eq]; exact deadFree_spec hd, u, hu, by rw [← thawL_eq, ← mapN_eq, hargs]; exact hok, rfl⟩)) k
end
end Go.Vam
