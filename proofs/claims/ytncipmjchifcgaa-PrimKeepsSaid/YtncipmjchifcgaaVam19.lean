/- An abstract machine over data (part 19): lists of one's own that are laid aside where they stand; stores into them. -/
import Derived.Test.YtncipmjchifcgaaVam18
namespace Go.Vam
open Go.RowKit
set_option linter.unusedVariables false
set_option linter.unusedSimpArgs false

/-! ### 1. A list of one's own becomes data -/
def St.frz (S : St) (t b : Nat) (rs : List (List C)) : St := ⟨S.nt, (t, .c (.sl rs)) :: S.tm, S.bx, S.dead, b :: S.fz⟩
theorem Sim.freeze {E : En} {S : St} {Z : Zone} {β : Nat → Value} {a : Act} {w : World} (hs : Sim E S Z β a w) {b e sz : Nat} {rs : List (List C)} (hd : b ∉ S.dead) (hb : nthB S.bx b = some (.rows e sz rs)) :
    ∃ Z', Sim E { S with fz := b :: S.fz } Z' β a w ∧ Evo S.bx.length Z β Z' β w w ∧ CR Z' w (.sl rs) (β b) := by
  have hbl : b < S.bx.length := by rw [nthB_eq] at hb; exact (List.getElem?_eq_some_iff.1 hb).1
  have hl : ∀ b' ∈ [b], b' < S.bx.length ∧ b' ∉ S.dead := fun b' h => by
    rw [List.mem_singleton] at h
    subst h
    exact ⟨hbl, hd⟩
  have he := ZF.ext Z β (nthB S.bx) [b] w
  refine ⟨ZF Z β (nthB S.bx) [b], ⟨⟨(hs.wr.freeze [b] hl).mono (fun _ h => h) (fun _ h => h) (fun b' h => ?_) (fun _ _ => rfl), fun a h => .inl (hs.z0 a h), fun a h1 h2 => ?_, hs.tsz, fun t => (hs.tr t).ext he (fun _ h => ⟨h, rfl⟩), hs.df⟩, fun b' h => ?_, hs.dl⟩, ⟨he, fun _ _ => rfl, .refl _⟩, CR.ofOwn hs.wr ⟨hbl, hd⟩ hb (by simp)⟩
  · rcases h with h | h
    · exact List.mem_cons_of_mem _ h
    · rw [List.mem_singleton] at h; simp [h]
  · by_cases hz : Z a
    · exact hs.zn a hz h2
    · exact ZF_base hs.wr [b] hl a h1 hz
  · rcases List.mem_cons.1 h with h | h
    · rw [h]; exact hbl
    · exact hs.fl b' h
theorem Sim.frzT {E : En} {S : St} {Z : Zone} {β : Nat → Value} {a : Act} {w : World} (hs : Sim E S Z β a w) {t b e sz : Nat} {rs : List (List C)} (ht : look S.tm t = .own b) (hd : b ∉ S.dead) (hb : nthB S.bx b = some (.rows e sz rs)) :
    ∃ Z', Sim E (S.frz t b rs) Z' β a w ∧ Evo S.bx.length Z β Z' β w w := by
  obtain ⟨Z', h1, h2, h3⟩ := hs.freeze hd hb
  refine ⟨Z', ⟨⟨h1.wr, h1.z0, h1.zn, h1.tsz, fun t' => ?_, h1.df⟩, h1.fl, h1.dl⟩, h2⟩
  simp only [St.frz, look]
  split
  · rename_i e1
    subst e1
    have hA := hs.tr t
    simp only [ht] at hA
    have hv : a.tmps.getD t undef = β b := by
      generalize a.tmps.getD t undef = q at hA
      cases hA; rfl
    rw [hv]
    exact .c _ _ h3
  · exact h1.tr t'
theorem AWP.frzT {E : En} {c : Code} {S : St} {Q : Exit → St → Prop} (t b : Nat) {e sz : Nat} {rs : List (List C)} (ht : look S.tm t = .own b) (hd : b ∉ S.dead) (hb : nthB S.bx b = some (.rows e sz rs)) (hn : E.n0 ≤ S.bx.length)
    (h : AWP E c (S.frz t b rs) Q) : AWP E c S Q := fun Z β a w hs => by
  obtain ⟨Z', h1, h2⟩ := hs.frzT ht hd hb
  exact wpIn_mono (h Z' β a w h1) fun e a' w' k => k.trans (h2.mono hn)
theorem OpK.frzT {E : En} {o : Oper} {S : St} {K : St → Prop} (t b : Nat) {e sz : Nat} {rs : List (List C)} (ht : look S.tm t = .own b) (hd : b ∉ S.dead) (hb : nthB S.bx b = some (.rows e sz rs)) (hn : E.n0 ≤ S.bx.length)
    (h : OpK E o (S.frz t b rs) K) : OpK E o S K := fun Z β a w hs => by
  obtain ⟨Z', h1, h2⟩ := hs.frzT ht hd hb
  exact (h Z' β a w h1).mono fun v w' k => k.trans (h2.mono hn)
/-- A list of one's own in a box's cell becomes data. -/
theorem AWP.frzC {E : En} {c : Code} {S : St} {Q : Exit → St → Prop} (b0 k b : Nat) {e sz : Nat} {rs : List (List C)} {cs : List AV} (hb0 : nthB S.bx b0 = some (.cells cs)) (hk : cs[k]? = some (.own b)) (hd : b ∉ S.dead) (hb : nthB S.bx b = some (.rows e sz rs)) (hn : E.n0 ≤ S.bx.length)
    (h : AWP E c ⟨S.nt, S.tm, setBx S.bx b0 (.cells (cs.set k (.c (.sl rs)))), S.dead, b :: S.fz⟩ Q) : AWP E c S Q := fun Z β a w hs => by
  obtain ⟨Z', h1, h2, h3⟩ := hs.freeze hd hb
  have hb0l : b0 < S.bx.length := by rw [nthB_eq] at hb0; exact (List.getElem?_eq_some_iff.1 hb0).1
  have hS := h1.rebox (bx' := setBx S.bx b0 (.cells (cs.set k (.c (.sl rs))))) (by simp [setBx_eq]) (fun b' hb' hd' => by
    obtain ⟨x, hx, hB⟩ := h1.wr.box b' ⟨hb', hd'⟩
    by_cases hbb : b' = b0
    · subst hbb
      have hxe : x = .cells cs := by
        rw [hb0] at hx
        exact (Option.some.inj hx).symm
      subst hxe
      refine ⟨.cells (cs.set k (.c (.sl rs))), by rw [nthB_eq, setBx_eq, List.getElem?_set_self hb0l], ?_⟩
      cases hB with
      | cells _ g arr t hv hg hh hl hc hz =>
        refine .cells _ g arr t hv hg hh (by simpa using hl) (fun i y v e1 e2 => ?_) hz
        by_cases hik : k = i
        · subst hik
          have hkl : k < cs.length := (List.getElem?_eq_some_iff.1 hk).1
          rw [List.getElem?_set_self hkl] at e1
          simp only [Option.some.injEq] at e1
          subst e1
          have hA := hc k _ v hk e2
          have hv : v = β b := by cases hA; rfl
          rw [hv]
          exact .c _ _ h3
        · rw [List.getElem?_set_ne hik] at e1
          exact hc i y v e1 e2
    · refine ⟨x, ?_, hB⟩
      rw [nthB_eq] at hx ⊢
      rw [setBx_eq, List.getElem?_set_ne (fun e => hbb e.symm)]
      exact hx)
  exact wpIn_mono (h Z' β a w hS) fun e a' w' k => k.trans (h2.mono hn)

section
variable {E : En} {Q : Exit → St → Prop} {o : Oper} {l : List Oper} {ds : List (Option Nat)} {dr : Dr} {ks : List Fr} {S : St}
theorem Go.frzT {c : Code} (t b : Nat) {e sz : Nat} {rs : List (List C)} (ht : look S.tm t = .own b) (hb : nthB S.bx b = some (.rows e sz rs)) (hd : memB b S.dead = false)
    (h : Go E Q (.code c :: ks) (S.frz t b rs)) : Go E Q (.code c :: ks) S := fun hn => AWP.frzT t b ht (memB_not (by rw [hd]; simp)) hb hn (h hn)
theorem Go.frzC {c : Code} (b0 k b : Nat) {e sz : Nat} {rs : List (List C)} {cs : List AV} (hb0 : nthB S.bx b0 = some (.cells cs)) (hk : nthX cs k = some (.own b)) (hb : nthB S.bx b = some (.rows e sz rs)) (hd : memB b S.dead = false)
    (h : Go E Q (.code c :: ks) ⟨S.nt, S.tm, setBx S.bx b0 (.cells (cs.set k (.c (.sl rs)))), S.dead, b :: S.fz⟩) : Go E Q (.code c :: ks) S := fun hn =>
  AWP.frzC b0 k b hb0 (by rw [← nthX_eq]; exact hk) (memB_not (by rw [hd]; simp)) hb hn (h (by simpa [setBx_eq] using hn))
theorem Go.frzO {o : Oper} {l : List Oper} (t b : Nat) {e sz : Nat} {rs : List (List C)} (ht : look S.tm t = .own b) (hb : nthB S.bx b = some (.rows e sz rs)) (hd : memB b S.dead = false)
    (h : Go E Q (.ops 1 (o :: l) ds none :: ks) (S.frz t b rs)) : Go E Q (.ops 1 (o :: l) ds none :: ks) S := fun hn => by
  obtain ⟨r, h1, h2, h3⟩ := h hn
  exact ⟨r, h1, fun hr => OpK.frzT t b ht (memB_not (by rw [hd]; simp)) hb hn (h2 hr), fun hr => by simp only at h1; rw [h1] at hr; simp at hr⟩
/-- A piece of a list that is laid aside. -/
theorem SlcO.frz (hE : EOk E) {b e sz : Nat} {rs : List (List C)} {h : Int} (n t : Nat) (ht : look S.tm t = .own b) (hb : nthB S.bx b = some (.rows e sz rs)) (hd : memB b S.dead = false)
    (k : evF E Q n (.ops 1 (o :: l) ds none :: ks) (S.frz t b rs)) : SlcO E Q o l ds none ks S b e sz rs h := fun _ _ => Go.frzO t b ht hb hd (evF_sound hE n _ _ k)
theorem HardOp.frz (hE : EOk E) {b e sz : Nat} {rs : List (List C)} (n t : Nat) (ht : look S.tm t = .own b) (hb : nthB S.bx b = some (.rows e sz rs)) (hd : memB b S.dead = false)
    (k : evF E Q n (.ops 1 (o :: l) ds none :: ks) (S.frz t b rs)) : HardOp E Q o l ds none ks S := fun _ => Go.frzO t b ht hb hd (evF_sound hE n _ _ k)

/-! ### 2. A store into a list of one's own -/
theorem StG.byO (hE : EOk E) {tt' : TT} (ht : E.tt = tt') {t : Nat} {y : AV} {b off e sz j : Nat} {i : TyI} {rs : List (List C)} {row m : List C} (n : Nat) (hti : tt' t = some i) (hd : memB b S.dead = false) (hfz : memB b S.fz = false) (hb : nthB S.bx b = some (.rows e sz rs))
    (hm : rowOf y = some m) (hr : rs[j]? = some row) (hml : m.length = i.n) (hj : j * sz ≤ off) (hl : off - j * sz + i.n ≤ row.length)
    (k : evF E Q n (.ops 0 l ds none :: ks) (S.setB o.dst b (.rows e sz (rs.set j (row.take (off - j * sz) ++ m ++ row.drop (off - j * sz + m.length)))))) : StG E Q o l ds none ks S t (.optr b off) y := fun hf hdst hn => by
  obtain ⟨xo, yo, hop, hx, hy⟩ := hf
  exact HardOp.opK (K := fun S' => S' = S.setB o.dst b (.rows e sz (rs.set j (row.take (off - j * sz) ++ m ++ row.drop (off - j * sz + m.length)))))
    (OpK.storeOptr hE.hT hop hn hdst (by rw [ht]; exact hti) hx (memB_not (by rw [hd]; simp)) (memB_not (by rw [hfz]; simp)) hb (by rw [hy]; exact hm) hr hml hj hl rfl) (fun S' e => by subst e; exact evF_sound hE n _ _ k) hn
theorem StG.byOD (hE : EOk E) {tt' : TT} (ht : E.tt = tt') {all : Array Oper} {acc : List TrK} {t : Nat} {y : AV} {b off e sz j : Nat} {i : TyI} {rs : List (List C)} {row m : List C} (n : Nat) (hti : tt' t = some i) (hd : memB b S.dead = false) (hfz : memB b S.fz = false) (hb : nthB S.bx b = some (.rows e sz rs))
    (hm : rowOf y = some m) (hr : rs[j]? = some row) (hml : m.length = i.n) (hj : j * sz ≤ off) (hl : off - j * sz + i.n ≤ row.length) (hdw : drawOk all (acc ++ [.st]) = true)
    (k : evF E Q n ks (S.setB o.dst b (.rows e sz (rs.set j (row.take (off - j * sz) ++ m ++ row.drop (off - j * sz + m.length)))))) : StG E Q o [] ds (some (all, acc)) ks S t (.optr b off) y := fun hf hdst hn => by
  obtain ⟨xo, yo, hop, hx, hy⟩ := hf
  exact HardOp.opKd (K := fun S' => S' = S.setB o.dst b (.rows e sz (rs.set j (row.take (off - j * sz) ++ m ++ row.drop (off - j * sz + m.length)))))
    (OpK.storeOptr hE.hT hop hn hdst (by rw [ht]; exact hti) hx (memB_not (by rw [hd]; simp)) (memB_not (by rw [hfz]; simp)) hb (by rw [hy]; exact hm) hr hml hj hl rfl) hdw (fun S' e => by subst e; exact evF_sound hE n _ _ k) hn
end
end Go.Vam
