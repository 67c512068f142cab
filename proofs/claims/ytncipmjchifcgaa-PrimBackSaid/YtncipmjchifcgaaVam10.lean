/- An abstract machine over data (part 10): loops, what is forgotten, contracts of functions. -/
import Derived.Test.YtncipmjchifcgaaVam9
import Derived.RangeFuncLeaves
namespace Go.Vam
open Go.RowKit
set_option linter.unusedVariables false
set_option linter.unusedSimpArgs false

/-! ### 1. What is forgotten, and other names -/
def sig (σ : List Nat) (b : Nat) : Nat := σ.getD b 0
def okA (n : Nat) (σ : List Nat) (x : AV) : AV → Prop
  | .any => True
  | .own b => b < n ∧ x = .own (sig σ b)
  | .ptr b o => b < n ∧ x = .ptr (sig σ b) o
  | .optr b o => b < n ∧ x = .optr (sig σ b) o
  | .tup _ => False
  | .clo _ _ _ => False
  | .yld b => b < n ∧ x = .yld (sig σ b)
  | .c y => x = .c y ∨ (x = .nil ∧ y = .sl [])
  | .agg cs => x = .agg cs
  | .pt cs => x = .pt cs
  | .und => x = .und
  | .nil => x = .nil
def wkL (n : Nat) (σ : List Nat) : List AV → List AV → Prop
  | [], [] => True
  | x :: l, x' :: l' => okA n σ x x' ∧ wkL n σ l l'
  | _, _ => False
def wkT (n : Nat) (σ : List Nat) (tm : List (Nat × AV)) : List (Nat × AV) → Prop
  | [] => True
  | (t, x') :: l => okA n σ (look tm t) x' ∧ wkT n σ tm l
def wkBx (n : Nat) (σ : List Nat) : Bx → Bx → Prop
  | .cells cs, .cells cs' => wkL n σ cs cs'
  | .rows e sz rs, .rows e' sz' rs' => e = e' ∧ sz = sz' ∧ rs = rs'
  | .lp nt tm ps a b st pe, .lp nt' tm' ps' a' b' st' pe' => nt = nt' ∧ ps = ps' ∧ a = a' ∧ b = b' ∧ st = st' ∧ pe = pe' ∧ wkT n σ tm tm'
  | _, _ => False
def wkBs (n : Nat) (σ : List Nat) (S S' : St) : Nat → List Nat → List Bx → Prop
  | _, [], [] => True
  | k, s :: ss, x' :: xs => (k ∈ S'.dead ∨ (s ∉ S.dead ∧ (s ∈ S.fz → k ∈ S'.fz) ∧ ∃ x, nthB S.bx s = some x ∧ wkBx n σ x x')) ∧ wkBs n σ S S' (k + 1) ss xs
  | _, _, _ => False
def fixB : Nat → List Nat → Nat → Prop
  | 0, _, _ => True
  | n + 1, s :: ss, k => s = k ∧ fixB n ss (k + 1)
  | _ + 1, [], _ => False
structure Wk (n0 : Nat) (S S' : St) (σ : List Nat) : Prop where
  nt : S'.nt = S.nt
  nod : σ.Nodup
  fix : fixB n0 σ 0
  tm : wkT S'.bx.length σ S.tm S'.tm
  bx : wkBs S'.bx.length σ S S' 0 σ S'.bx
  fl : ∀ b ∈ S'.fz, b < S'.bx.length
  dl : ∀ b ∈ S'.dead, b < S'.bx.length

theorem wkL_spec {n : Nat} {σ : List Nat} : ∀ {l l' : List AV}, wkL n σ l l' → l.length = l'.length ∧ ∀ (i : Nat) (x x' : AV), l[i]? = some x → l'[i]? = some x' → okA n σ x x'
  | [], [], _ => ⟨rfl, by simp⟩
  | x :: l, x' :: l', h => by
    obtain ⟨h1, h2⟩ := wkL_spec h.2
    refine ⟨by simp [h1], fun i y y' e1 e2 => ?_⟩
    match i with
    | 0 =>
      simp at e1 e2
      subst e1; subst e2
      exact h.1
    | i + 1 => exact h2 i y y' e1 e2
  | [], _ :: _, h => h.elim
  | _ :: _, [], h => h.elim
theorem wkT_spec {n : Nat} {σ : List Nat} {tm : List (Nat × AV)} : ∀ {l : List (Nat × AV)}, wkT n σ tm l → ∀ t, okA n σ (look tm t) (look l t)
  | [], _, t => trivial
  | (t', x') :: l, h, t => by
    simp only [look]
    split
    · rename_i e; subst e; exact h.1
    · exact wkT_spec h.2 t
theorem wkBs_spec {n : Nat} {σ : List Nat} {S S' : St} : ∀ (k : Nat) (ss : List Nat) (xs : List Bx), wkBs n σ S S' k ss xs → ss.length = xs.length ∧
    ∀ (i s : Nat) (x' : Bx), ss[i]? = some s → xs[i]? = some x' → (k + i) ∈ S'.dead ∨ (s ∉ S.dead ∧ (s ∈ S.fz → (k + i) ∈ S'.fz) ∧ ∃ x, nthB S.bx s = some x ∧ wkBx n σ x x')
  | k, [], [], _ => ⟨rfl, by simp⟩
  | k, s :: ss, x' :: xs, h => by
    obtain ⟨h1, h2⟩ := wkBs_spec (k + 1) ss xs h.2
    refine ⟨by simp [h1], fun i s' y e1 e2 => ?_⟩
    match i with
    | 0 =>
      simp at e1 e2
      subst e1; subst e2
      exact h.1
    | i + 1 =>
      have := h2 i s' y e1 e2
      rw [show k + 1 + i = k + (i + 1) by omega] at this
      exact this
  | k, [], _ :: _, h => h.elim
  | k, _ :: _, [], h => h.elim
theorem fixB_spec : ∀ (n : Nat) (ss : List Nat) (k : Nat), fixB n ss k → ∀ b, b < n → ss[b]? = some (k + b)
  | 0, _, _, _, b, hb => by omega
  | n + 1, s :: ss, k, h, 0, hb => by simp [h.1]
  | n + 1, s :: ss, k, h, b + 1, hb => by
    have := fixB_spec n ss (k + 1) h.2 b (by omega)
    rw [List.getElem?_cons_succ, this]
    congr 1
    omega
  | n + 1, [], k, h, b, hb => h.elim
theorem okA_AR {Z : Zone} {w : World} {β : Nat → Value} {cr : Nat → Prop} {n : Nat} {σ : List Nat} {x x' : AV} {v : Value} (h : okA n σ x x') (hA : AR Z w β cr x v) : AR Z w (fun b => β (sig σ b)) (fun b => b < n) x' v := by
  cases x' with
  | any => exact .any _
  | own b =>
    obtain ⟨hb, rfl⟩ := h
    cases hA
    exact AR.own (β := fun b => β (sig σ b)) b hb
  | ptr b o =>
    obtain ⟨hb, rfl⟩ := h
    cases hA with | ptr _ _ g _ hg => exact .ptr b o g hb hg
  | optr b o =>
    obtain ⟨hb, rfl⟩ := h
    cases hA with | optr _ _ g n cap _ hg => exact .optr b o g n cap hb hg
  | tup xs => exact h.elim
  | clo g f c => exact h.elim
  | yld b =>
    obtain ⟨hb, rfl⟩ := h
    cases hA with | yld _ g _ hg => exact .yld b g hb hg
  | c y =>
    rcases h with h | ⟨h1, h2⟩
    · subst h
      cases hA with | c _ _ h => exact .c _ _ h
    · subst h1; subst h2
      cases hA
      exact .c _ _ (CR.nil _ _)
  | agg cs =>
    cases h
    cases hA with | agg _ _ h1 h2 => exact .agg _ _ h1 h2
  | pt cs =>
    cases h
    cases hA with | pt _ _ vals h1 h2 => exact .pt _ _ vals h1 h2
  | und =>
    cases h
    cases hA
    exact .und
  | nil =>
    cases h
    cases hA
    exact .nil
theorem Wk.sim {E : En} {S S' : St} {σ : List Nat} (h : Wk E.n0 S S' σ) {Z : Zone} {β : Nat → Value} {a : Act} {w : World} (hs : Sim E S Z β a w) :
    ∃ β', Sim E S' Z β' a w ∧ Evo E.n0 Z β Z β' w w := by
  have htm := wkT_spec h.tm
  obtain ⟨hb1, hb2⟩ := wkBs_spec 0 σ S'.bx h.bx
  have hsig : ∀ b, b < S'.bx.length → σ[b]? = some (sig σ b) := fun b hb => by
    unfold sig
    rw [List.getD_eq_getElem?_getD, List.getElem?_eq_getElem (by omega)]
    rfl
  have hlive : ∀ b, b < S'.bx.length → b ∉ S'.dead → ∃ x x', nthB S.bx (sig σ b) = some x ∧ nthB S'.bx b = some x' ∧ wkBx S'.bx.length σ x x' ∧ sig σ b ∉ S.dead ∧ (sig σ b ∈ S.fz → b ∈ S'.fz) := fun b hb hd => by
    have hx' : S'.bx[b]? = some S'.bx[b] := List.getElem?_eq_getElem hb
    rcases hb2 b _ _ (hsig b hb) hx' with h | ⟨h1, h2, x, h3, h4⟩
    · rw [Nat.zero_add] at h; exact absurd h hd
    · rw [Nat.zero_add] at h2
      exact ⟨x, _, h3, by rw [nthB_eq]; exact hx', h4, h1, h2⟩
  have hlt : ∀ b, b < S'.bx.length → b ∉ S'.dead → sig σ b < S.bx.length ∧ sig σ b ∉ S.dead := fun b hb hd => by
    obtain ⟨x, x', h1, _, _, h2, _⟩ := hlive b hb hd
    rw [nthB_eq] at h1
    exact ⟨(List.getElem?_eq_some_iff.1 h1).1, h2⟩
  have hinj : ∀ b b', b < S'.bx.length → b' < S'.bx.length → b ≠ b' → sig σ b ≠ sig σ b' := fun b b' hb hb' hne e => by
    have e1 := hsig b hb
    have e2 := hsig b' hb'
    rw [← e] at e2
    exact hne ((List.getElem?_inj (by rw [hb1]; exact hb) h.nod).1 (e1.trans e2.symm))
  refine ⟨fun b => β (sig σ b), ⟨⟨⟨hs.wr.below, hs.wr.hbase, hs.wr.zin, hs.wr.zsp, fun b hb => ?_, fun b b' g h1 h2 hne => ?_, fun b hb => hb.1, hs.wr.oth⟩, hs.z0, hs.zn, by rw [hs.tsz, h.nt], fun t => ?_, hs.df⟩, h.fl, h.dl⟩, ⟨.refl _ _, fun b hb => ?_, .refl _⟩⟩
  · obtain ⟨x, x', h1, h2, h3, h4, h5⟩ := hlive b hb.1 hb.2
    refine ⟨x', h2, ?_⟩
    obtain ⟨y, hy, hB⟩ := hs.wr.box (sig σ b) (hlt b hb.1 hb.2)
    rw [h1] at hy
    injection hy with hy
    subst hy
    cases hB with
    | cells cs g arr t hv hg hh hl' hc hz =>
      cases x' with
      | cells cs' =>
        obtain ⟨l1, l2⟩ := wkL_spec h3
        refine .cells cs' g arr t hv hg hh (by omega) (fun i y v e1 e2 => ?_) (fun hn => hz (fun hf => hn (h5 hf)))
        have hi : i < cs.length := by rw [l1]; exact (List.getElem?_eq_some_iff.1 e1).1
        exact okA_AR (l2 i _ y (List.getElem?_eq_getElem hi) e1) (hc i _ v (List.getElem?_eq_getElem hi) e2)
      | rows => exact h3.elim
      | lp => exact h3.elim
    | lp nt tm ps assign body st pend g rec hv hg hh hps has hbd hst hpd hsz hc hz =>
      cases x' with
      | cells => exact h3.elim
      | rows => exact h3.elim
      | lp nt' tm' ps' a' b' st' pe' =>
        obtain ⟨rfl, rfl, rfl, rfl, rfl, rfl, h7⟩ := h3
        exact .lp _ _ _ _ _ _ _ g rec hv hg hh hps has hbd hst hpd hsz (fun t => okA_AR (wkT_spec h7 t) (hc t)) hz
    | rows e sz rs inner ho hr hc ht hz =>
      cases x' with
      | cells => exact h3.elim
      | lp => exact h3.elim
      | rows e' sz' rs' =>
        obtain ⟨rfl, rfl, rfl⟩ := h3
        exact .rows e sz rs inner ho hr hc ht (fun hn => hz (fun hf => hn (h5 hf)))
  · exact hs.wr.dis _ _ g (hlt b h1.1 h1.2) (hlt b' h2.1 h2.2) (hinj b b' h1.1 h2.1 hne)
  · exact okA_AR (htm t) (hs.tr t)
  · have := fixB_spec _ _ _ h.fix b hb
    simp only [sig, getD_of this, Nat.zero_add]
theorem AWP.weaken {E : En} {c : Code} {S S' : St} {Q : Exit → St → Prop} {σ : List Nat} (hw : Wk E.n0 S S' σ) (h : AWP E c S' Q) : AWP E c S Q := fun Z β a w hs => by
  obtain ⟨β', h1, h2⟩ := hw.sim hs
  exact wpIn_mono (h Z β' a w h1) fun e a' w' k => k.trans h2

/-- A box for a list that has no room yet. -/
theorem Sim.nilBox {E : En} {S : St} {Z : Zone} {β : Nat → Value} {a : Act} {w : World} (hs : Sim E S Z β a w) (e sz : Nat) :
    ∃ β' : Nat → Value, Sim E { S with bx := S.bx ++ [.rows e sz []] } Z β' a w ∧ β' S.bx.length = .slice none 0 0 ∧ Evo S.bx.length Z β Z β' w w := by
  let β' : Nat → Value := fun b => if b = S.bx.length then .slice none 0 0 else β b
  have hβ : ∀ b, b < S.bx.length → β' b = β b := fun b hb => by simp [β', show b ≠ S.bx.length by omega]
  have hcr : ∀ b, b < S.bx.length → b < (S.bx ++ [Bx.rows e sz []]).length ∧ β' b = β b := fun b hb => ⟨by simp; omega, hβ b hb⟩
  have hlen : (S.bx ++ [Bx.rows e sz []]).length = S.bx.length + 1 := by simp
  refine ⟨β', ⟨⟨⟨hs.wr.below, hs.wr.hbase, hs.wr.zin, hs.wr.zsp, fun b hb => ?_, fun b b' g h1 h2 hne e1 e2 => ?_, fun b hb => hb.1, hs.wr.oth⟩, hs.z0, hs.zn, hs.tsz, fun t => (hs.tr t).ext (Ext.refl _ _) hcr, hs.df⟩, fun b hb => by have := hs.fl b hb; simp; omega, fun b hb => by have := hs.dl b hb; simp; omega⟩, by simp [β'], ⟨.refl _ _, hβ, .refl _⟩⟩
  · by_cases hbl : b = S.bx.length
    · subst hbl
      refine ⟨.rows e sz [], by rw [nthB_eq]; simp, .rows e sz [] [] ⟨by simp, .inl ⟨by simp [β'], rfl⟩⟩ (by simp) (by simp) (fun g hg => ?_) (fun _ g hg => ?_)⟩ <;> simp [β', Value.ownBlock] at hg
    · have hb' : b < S.bx.length := by have := hb.1; simp at this; omega
      obtain ⟨y, hy, hB⟩ := hs.wr.box b ⟨hb', hb.2⟩
      refine ⟨y, ?_, hB.ext (Ext.refl _ _) hcr hb' (fun _ _ => rfl) (fun g hg a ha e => .inl ha) id⟩
      rw [nthB_eq] at hy ⊢
      rw [List.getElem?_append_left hb']
      exact hy
  · have blkn : ∀ g, blk (β' S.bx.length) ≠ some g := fun g => by simp [β', blk]
    have h1l := h1.1
    have h2l := h2.1
    rw [hlen] at h1l h2l
    by_cases c1 : b = S.bx.length
    · subst c1; exact blkn g e1
    · by_cases c2 : b' = S.bx.length
      · subst c2; exact blkn g e2
      · rw [hβ b (by omega)] at e1
        rw [hβ b' (by omega)] at e2
        exact hs.wr.dis b b' g ⟨by omega, h1.2⟩ ⟨by omega, h2.2⟩ hne e1 e2
theorem AR.nil_own {Z : Zone} {w : World} {β : Nat → Value} {cr : Nat → Prop} {v : Value} {n : Nat} (h : AR Z w β cr .nil v) (hn : cr n) (hβ : β n = .slice none 0 0) : AR Z w β cr (.own n) v := by
  have : v = β n := by rw [hβ]; cases h; rfl
  rw [this]
  exact .own n hn
/-- A nil list in a temporary is an empty one of one's own. -/
theorem AWP.nilT {E : En} {c : Code} {S : St} {Q : Exit → St → Prop} (t e sz : Nat) (ht : look S.tm t = .nil) (hn : E.n0 ≤ S.bx.length)
    (h : AWP E c { S with tm := (t, .own S.bx.length) :: S.tm, bx := S.bx ++ [.rows e sz []] } Q) : AWP E c S Q := fun Z β a w hs => by
  obtain ⟨β', h1, h2, h3⟩ := hs.nilBox e sz
  have hS : Sim E { S with tm := (t, .own S.bx.length) :: S.tm, bx := S.bx ++ [.rows e sz []] } Z β' a w := by
    refine ⟨⟨h1.wr, h1.z0, h1.zn, h1.tsz, fun t' => ?_, h1.df⟩, h1.fl, h1.dl⟩
    simp only [look]
    split
    · rename_i e1
      subst e1
      have := h1.tr t
      simp only [ht] at this
      exact this.nil_own (by simp) h2
    · exact h1.tr t'
  exact wpIn_mono (h Z β' a w hS) fun e a' w' k => k.trans (h3.mono hn)
theorem Sim.rebox {E : En} {S : St} {Z : Zone} {β : Nat → Value} {a : Act} {w : World} {bx' : List Bx} (hs : Sim E S Z β a w) (hl : bx'.length = S.bx.length)
    (h : ∀ b, b < S.bx.length → b ∉ S.dead → ∃ x', nthB bx' b = some x' ∧ BoxR E.base Z w β (fun b => b < S.bx.length) (fun b => b ∈ S.fz) b x') : Sim E ⟨S.nt, S.tm, bx', S.dead, S.fz⟩ Z β a w := by
  have e1 : (fun b => b < bx'.length) = fun b => b < S.bx.length := by rw [hl]
  have e2 : (fun b => b < bx'.length ∧ b ∉ S.dead) = fun b => b < S.bx.length ∧ b ∉ S.dead := by rw [hl]
  refine ⟨?_, fun b hb => by rw [hl]; exact hs.fl b hb, fun b hb => by rw [hl]; exact hs.dl b hb⟩
  show GSim E S.nt (look S.tm) (fun b => b < bx'.length) (fun b => b < bx'.length ∧ b ∉ S.dead) (fun b => b ∈ S.fz) (nthB bx') Z β a w
  rw [e1, e2]
  exact ⟨⟨hs.wr.below, hs.wr.hbase, hs.wr.zin, hs.wr.zsp, fun b hb => h b hb.1 hb.2, hs.wr.dis, hs.wr.sub, hs.wr.oth⟩, hs.z0, hs.zn, hs.tsz, hs.tr, hs.df⟩
/-- A nil list in a box's cell is an empty one of one's own. -/
theorem AWP.nilC {E : En} {c : Code} {S : St} {Q : Exit → St → Prop} (b k e sz : Nat) {cs : List AV} (hb : nthB S.bx b = some (.cells cs)) (hk : cs[k]? = some .nil) (hn : E.n0 ≤ S.bx.length)
    (h : AWP E c ⟨S.nt, S.tm, setBx S.bx b (.cells (cs.set k (.own S.bx.length))) ++ [.rows e sz []], S.dead, S.fz⟩ Q) : AWP E c S Q := fun Z β a w hs => by
  obtain ⟨β', h1, h2, h3⟩ := hs.nilBox e sz
  have hbl : b < S.bx.length := by rw [nthB_eq] at hb; exact (List.getElem?_eq_some_iff.1 hb).1
  have hlen : (setBx S.bx b (.cells (cs.set k (.own S.bx.length))) ++ [Bx.rows e sz []]).length = (S.bx ++ [Bx.rows e sz []]).length := by simp [setBx_eq]
  have hS := h1.rebox (bx' := setBx S.bx b (.cells (cs.set k (.own S.bx.length))) ++ [.rows e sz []]) hlen (fun b' hb' hd' => by
    obtain ⟨x, hx, hB⟩ := h1.wr.box b' ⟨hb', hd'⟩
    by_cases hbb : b' = b
    · subst hbb
      have hxe : x = .cells cs := by
        rw [nthB_eq] at hx hb
        simp only [List.getElem?_append_left hbl] at hx
        rw [hb] at hx
        exact (Option.some.inj hx).symm
      subst hxe
      refine ⟨.cells (cs.set k (.own S.bx.length)), by rw [nthB_eq, List.getElem?_append_left (by simpa [setBx_eq] using hbl), setBx_eq, List.getElem?_set_self hbl], ?_⟩
      cases hB with
      | cells _ g arr t hv hg hh hl hc hz =>
        refine .cells _ g arr t hv hg hh (by simpa using hl) (fun i y v e1 e2 => ?_) hz
        by_cases hik : k = i
        · subst hik
          have hkl : k < cs.length := (List.getElem?_eq_some_iff.1 hk).1
          rw [List.getElem?_set_self hkl] at e1
          simp only [Option.some.injEq] at e1
          subst e1
          exact (hc k _ v hk e2).nil_own (by simp) h2
        · rw [List.getElem?_set_ne hik] at e1
          exact hc i y v e1 e2
    · refine ⟨x, ?_, hB⟩
      rw [nthB_eq] at hx ⊢
      simp only at hx
      rw [← hx]
      by_cases hl : b' < S.bx.length
      · rw [List.getElem?_append_left hl, List.getElem?_append_left (by simpa [setBx_eq] using hl), setBx_eq, List.getElem?_set_ne (fun e => hbb e.symm)]
      · have hl' : ¬ b' < (setBx S.bx b (.cells (cs.set k (.own S.bx.length)))).length := by simpa [setBx_eq] using hl
        rw [List.getElem?_append_right (by omega), List.getElem?_append_right (by omega)]
        simp [setBx_eq])
  exact wpIn_mono (h Z β' a w hS) fun e a' w' k => k.trans (h3.mono hn)

/-! ### 2. Loops -/
theorem AWP.loop {ι : Type} {E : En} {c : Code} {S : St} {Q : Exit → St → Prop} (I : ι → St) (μ : ι → Nat) (i0 : ι) (h0 : ∃ σ, Wk E.n0 S (I i0) σ) 
    (round : ∀ i, AWP E c (I i) (seqK (fun S' => ∃ j σ, Wk E.n0 S' (I j) σ ∧ μ j < μ i) Q)) : AWP E (.loop c) S Q := fun Z β a w hs => by
  obtain ⟨σ, hσ⟩ := h0
  obtain ⟨β0, hs0, he0⟩ := hσ.sim hs
  refine wpIn_loop_ghost (fun n a' w' => ∃ i, μ i = n ∧ ∃ Z' β', Sim E (I i) Z' β' a' w' ∧ Evo E.n0 Z β Z' β' w w') (μ i0) ⟨i0, rfl, Z, β0, hs0, he0⟩ ?_
  rintro n a' w' ⟨i, rfl, Z', β', hs', he'⟩
  refine wpIn_mono (round i Z' β' a' w' hs') fun e a'' w'' ⟨S', Z'', β'', h1, h2, h3, h4⟩ => ?_
  cases e with
  | normal =>
    obtain ⟨j, σ', hwk, hlt⟩ := h4
    obtain ⟨β3, hs3, he3⟩ := hwk.sim h1
    exact ⟨μ j, hlt, j, rfl, Z'', β3, hs3, (he'.trans h2).trans he3⟩
  | exit id => exact ⟨S', Z'', β'', h1, he'.trans h2, h3, h4⟩
  | goto l => exact ⟨S', Z'', β'', h1, he'.trans h2, h3, h4⟩
  | ret => exact ⟨S', Z'', β'', h1, he'.trans h2, h3, h4⟩
  | panic c => exact ⟨S', Z'', β'', h1, he'.trans h2, h3, h4⟩
  | outgrown => exact ⟨S', Z'', β'', h1, he'.trans h2, h3, h4⟩

theorem AR.own_cr {Z : Zone} {w : World} {β : Nat → Value} {cr : Nat → Prop} {b : Nat} {v : Value} (h : AR Z w β cr (.own b) v) : cr b := by cases h; assumption
theorem AR.ptr_cr {Z : Zone} {w : World} {β : Nat → Value} {cr : Nat → Prop} {b off : Nat} {v : Value} (h : AR Z w β cr (.ptr b off) v) : cr b := by cases h; assumption
theorem AR.optr_cr {Z : Zone} {w : World} {β : Nat → Value} {cr : Nat → Prop} {b off : Nat} {v : Value} (h : AR Z w β cr (.optr b off) v) : cr b := by cases h; assumption

/-! ### 3. Contracts -/
def resV (tt : TT) (S : St) : ResultVar → Option AV
  | .tmp t => some (look S.tm t)
  | .cell a ty => match look S.tm a, tt ty with
    | .ptr b off, some i => if b ∈ S.dead then none else match nthB S.bx b with
      | some (.cells cs) => if off + i.n ≤ cs.length ∧ 0 < i.n ∧ (i.ag = false → i.n = 1) ∧ (i.ag = true → ((cs.drop off).take i.n).all isC = true) then some (if i.ag then .agg (((cs.drop off).take i.n).map toC) else nth cs off) else none
      | _ => none
    | _, _ => none
def resVs (tt : TT) (S : St) : List ResultVar → Option (List AV)
  | [] => some []
  | x :: l => match resV tt S x, resVs tt S l with
    | some y, some ys => some (y :: ys)
    | _, _ => none
def RetK (tt : TT) (S : St) (results : List ResultVar) (r : Ret) : Prop :=
  match results with
  | [x] => ∃ y, resV tt S x = some y ∧ match r with
    | .v z => (∀ b ∈ frzOf y, b ∉ S.dead) ∧ z = thawF (nthB S.bx) y
    | .own e sz rs => match y with
      | .own b => b ∉ S.dead ∧ b ∉ S.fz ∧ nthB S.bx b = some (.rows e sz rs)
      | .nil => rs = []
      | _ => False
  | l => ∃ ys, resVs tt S l = some ys ∧ (∀ b ∈ ys.flatMap frzOf, b ∉ S.dead) ∧ r = .v (.tup (ys.map (thawF (nthB S.bx))))
theorem load_ptr {P : Program} {base : Nat} {w0 : World} {Z : Zone} {β : Nat → Value} {cr lv fz : Nat → Prop} {bx : Nat → Option Bx} {w : World} {t : TypeId} {i : TyI} {b off : Nat} {cs : List AV} {q : Value} (hty : tyOk P t i = true) (hn : i.ag = false → i.n = 1) (hlen : off + i.n ≤ cs.length) (hn0 : 0 < i.n)
    (hC : i.ag = true → ((cs.drop off).take i.n).all isC = true)
    (hW : WR base w0 Z β cr lv fz bx w) (hx : AR Z w β cr (.ptr b off) q) (hlv : lv b) (hb : bx b = some (.cells cs)) :
    ∃ ad v, q = .pointer (some ad) ∧ (loadVar t ad).run P w = .ok v w ∧ AR Z w β cr (if i.ag then .agg (((cs.drop off).take i.n).map toC) else nth cs off) v := by
  have key : OpRun P { dst := none, op := .load t (.const q), type := 0, pos := "", after := #[], guard := none } ⟨#[], []⟩ w (Post base w0 Z β cr lv fz bx 0 { res := if i.ag then .agg (((cs.drop off).take i.n).map toC) else nth cs off } w) :=
    op_loadPtr rfl hty hn hlen hn0 hC hW hx hlv hb
  cases hx with
  | ptr b off g hcb h =>
    obtain ⟨xx, hxx, hB⟩ := hW.box b hlv
    rw [hb] at hxx
    injection hxx with hxx
    subst hxx
    cases hB with
    | cells cs g' arr ty hv hg hh hl hc hz =>
      have hgg : g' = g := by rw [hv] at h; simpa using h
      subst hgg
      have hcell : ∀ k, k < i.n → w.cell? ((⟨g', off, none⟩ : Addr).add k) = some (arr.getD (off + k) undef) := fun k hk => by
        rw [add_lit, cell_of_row w g' (off + k) arr ty (0, 0) hh]
        have : off + k < arr.size := by omega
        simp [this]
      have hr := run_loadAt (P := P) (w := w) hty ⟨g', off, none⟩ (fun k => arr.getD (off + k) undef) hn hcell
      simp only [Instr.loadAt, Instr.sureAddr, Sem.run_bind, Sem.run_pure, Result.andThen_ok] at hr
      refine ⟨_, _, rfl, hr, ?_⟩
      have hat : ∀ (k : Nat) (x : AV), k < i.n → cs[off + k]? = some x → AR Z w β cr x (arr.getD (off + k) undef) := fun k x hk hx => by
        have hlt : off + k < arr.size := by omega
        refine hc (off + k) x _ hx ?_
        simp [hlt]
      cases ha : i.ag with
      | true =>
        simp only [if_true]
        refine .agg _ _ (by simp; omega) fun k c v h1 h2 => ?_
        rw [List.getElem?_map, List.getElem?_take] at h1
        split at h1
        · rename_i hk
          rw [List.getElem?_drop] at h1
          cases hx : cs[off + k]? with
          | none => rw [hx] at h1; simp at h1
          | some y =>
            rw [hx] at h1
            simp only [Option.map_some, Option.some.injEq] at h1
            subst h1
            have hvk : v = arr.getD (off + k) undef := by simpa [hk] using h2.symm
            subst hvk
            have hall := hC ha
            rw [List.all_eq_true] at hall
            exact toC_sound (hat k y hk hx) (hall y (List.mem_of_getElem? (i := k) (by rw [List.getElem?_take, if_pos hk, List.getElem?_drop]; exact hx)))
        · simp at h1
      | false =>
        have hlt : off < cs.length := by omega
        simp only [Bool.false_eq_true, if_false, nth_eq]
        rw [List.getElem?_eq_getElem hlt]
        exact hat 0 _ hn0 (List.getElem?_eq_getElem hlt)
def resRun (x : ResultVar) (tmps : Array Value) : Sem Value :=
  match x with
  | .tmp t => pure (tmps.getD t undef)
  | .cell a t => do loadVar t (← asAddr (tmps.getD a undef))
theorem resV_sound {E : En} (hT : TOk E.P E.tt) {S : St} {Z : Zone} {β : Nat → Value} {a : Act} {w : World} (hs : Sim E S Z β a w) {x : ResultVar} {y : AV} (h : resV E.tt S x = some y) :
    ∃ v, (resRun x a.tmps).run E.P w = .ok v w ∧ AR Z w β (fun b => b < S.bx.length) y v := by
  cases x with
  | tmp t =>
    simp only [resV, Option.some.injEq] at h
    subst h
    exact ⟨_, rfl, hs.evT (.tmp t)⟩
  | cell ad ty =>
    have hx := hs.evT (.tmp ad)
    have he : evT S.tm (.tmp ad) = look S.tm ad := rfl
    rw [he] at hx
    simp only [resV] at h
    split at h
    · rename_i b off i hn hti
      rw [hn] at hx
      have hcb := hx.ptr_cr
      split at h
      · simp at h
      · rename_i hd
        split at h
        · rename_i cs hbx
          split at h
          · rename_i hc
            simp only [Option.some.injEq] at h
            subst h
            obtain ⟨c1, c2, c3, c4⟩ := hc
            obtain ⟨addr, v, e1, e2, e3⟩ := load_ptr (hT ty i hti) c3 c1 c2 c4 hs.wr hx ⟨hcb, hd⟩ hbx
            refine ⟨v, ?_, e3⟩
            simp only [Act.eval] at e1
            simp only [resRun, e1, asAddr, Sem.run_bind, Sem.run_pure, Result.andThen_ok, e2]
          · simp at h
        · simp at h
    · simp at h
theorem resVs_sound {E : En} (hT : TOk E.P E.tt) {S : St} {Z : Zone} {β : Nat → Value} {a : Act} {w : World} (hs : Sim E S Z β a w) : ∀ {l : List ResultVar} {ys : List AV}, resVs E.tt S l = some ys →
    ∃ vs : List Value, (l.mapM fun x => resRun x a.tmps).run E.P w = .ok vs w ∧ vs.length = ys.length ∧ ∀ (i : Nat) (y : AV) (v : Value), ys[i]? = some y → vs[i]? = some v → AR Z w β (fun b => b < S.bx.length) y v
  | [], ys, h => by
    simp only [resVs, Option.some.injEq] at h
    subst h
    exact ⟨[], by simp, rfl, by simp⟩
  | x :: l, ys, h => by
    simp only [resVs] at h
    cases h1 : resV E.tt S x with
    | none => rw [h1] at h; simp at h
    | some y =>
      cases h2 : resVs E.tt S l with
      | none => rw [h1, h2] at h; simp at h
      | some ys' =>
        rw [h1, h2] at h
        simp only [Option.some.injEq] at h
        subst h
        obtain ⟨v, r1, a1⟩ := resV_sound hT hs h1
        obtain ⟨vs, r2, l2, a2⟩ := resVs_sound hT hs h2
        refine ⟨v :: vs, ?_, by simp [l2], fun i z u e1 e2 => ?_⟩
        · rw [List.mapM_cons]
          simp only [Sem.run_bind, r1, r2, Result.andThen_ok, Sem.run_pure]
        · match i with
          | 0 =>
            simp at e1 e2
            subst e1; subst e2
            exact a1
          | i + 1 => exact a2 i z u e1 e2
theorem results_run {P : Program} {fn : Func} {tmps : Array Value} {w : World} {vs : List Value} (h : (fn.results.toList.mapM fun x => resRun x tmps).run P w = .ok vs w) :
    (results fn tmps).run P w = .ok (if h : vs.toArray.size = 1 then vs.toArray[0] else .tuple vs.toArray) w := by
  have hm : (fn.results.mapM fun x => resRun x tmps).run P w = .ok vs.toArray w := by
    have : (fn.results.mapM fun x => resRun x tmps) = (fn.results.toList.toArray.mapM fun x => resRun x tmps) := by simp
    rw [this, List.mapM_toArray]
    simp only [Sem.run_map, h, Result.andThen_ok]
  have : results fn tmps = (fn.results.mapM fun x => resRun x tmps) >>= fun vs => pure (if h : vs.size = 1 then vs[0] else .tuple vs) := by
    unfold results
    congr 1
  rw [this]
  simp only [Sem.run_bind, hm, Result.andThen_ok, Sem.run_pure]

def argsT : Nat → List AV → List (Nat × AV)
  | _, [] => []
  | k, x :: l => (k, x) :: argsT (k + 1) l
theorem argsT_look : ∀ (l : List AV) (k t : Nat), look (argsT k l) t = if k ≤ t then (l[t - k]?).getD .any else .any
  | [], k, t => by simp [argsT, look]
  | x :: l, k, t => by
    simp only [argsT, look, argsT_look l (k + 1) t]
    by_cases h1 : k = t
    · subst h1; simp
    · rw [if_neg h1]
      by_cases h2 : k ≤ t
      · rw [if_pos (by omega), if_pos h2, show t - k = (t - (k + 1)) + 1 by omega]
        simp
      · rw [if_neg (by omega), if_neg h2]
/-- The marks are taken. -/
structure Taken (ms : List Nat) (w w' : World) : Prop where
  os : w'.os = w.os
  tape : w'.tape = w.tape
  output : w'.output = w.output
  size : w'.heap.size = w.heap.size
  other : ∀ k, k ∉ ms → w'.heap[k]? = w.heap[k]?
  now : ∀ k, k ∈ ms → w'.heap[k]? = some (.deferred none)
theorem leaves_marks {P : Program} {fn : Func} {tmps : Array Value} {R : Ending → World → Prop} : ∀ (ms : List Nat) (w : World), ms.Nodup → (∀ D ∈ ms, w.heap[D]? = some (.deferred (some []))) →
    (∀ w', Taken ms w w' → LeavesIn Fence.wide 0 P fn tmps R [] .returning w') → LeavesInM Fence.wide 0 P fn tmps R (ms.map mark) .returning w
  | [], w, _, _, h => h w ⟨rfl, rfl, rfl, rfl, fun _ _ => rfl, by simp⟩
  | D :: ms, w, hn, hd, h => by
    rw [List.nodup_cons] at hn
    have hD := hd D (by simp)
    have hlt : D < w.heap.size := (Array.getElem?_eq_some_iff.1 hD).1
    refine ⟨by simp, .inl ⟨D, _, rfl, run_takeDeferred hD, ?_⟩⟩
    refine leaves_marks ms _ hn.2 (fun D' hD' => ?_) fun w' ht => h w' ?_
    · have hne : D' ≠ D := fun e => hn.1 (by rw [← e]; exact hD')
      rw [World.putObj_heap_other hne]
      exact hd D' (by simp [hD'])
    · refine ⟨ht.os, ht.tape, ht.output, ht.size.trans (by simp), fun k hk => ?_, fun k hk => ?_⟩
      · rw [ht.other k (fun e => hk (by simp [e])), World.putObj_heap_other (fun e => hk (by simp [e]))]
      · by_cases hkm : k ∈ ms
        · exact ht.now k hkm
        · have : k = D := by rcases List.mem_cons.1 hk with h | h; exact h; exact absurd h hkm
          subst this
          rw [ht.other k hkm, World.putObj_heap_same hlt]
theorem Taken.cell {ms : List Nat} {w w' : World} (h : Taken ms w w') (hd : ∀ D ∈ ms, w.heap[D]? = some (.deferred (some []))) (a : Addr) : w'.cell? a = w.cell? a := by
  by_cases hm : a.block ∈ ms
  · unfold World.cell?
    rw [h.now _ hm, hd _ hm]
  · exact World.cell?_of_block (h.other _ hm)
theorem BoxR.notDef {base : Nat} {Z : Zone} {w : World} {β : Nat → Value} {cr fz : Nat → Prop} {b : Nat} {x : Bx} (h : BoxR base Z w β cr fz b x) {g : Nat} (hg : blk (β b) = some g) (d : Option (List Deferred)) : w.heap[g]? ≠ some (.deferred d) := by
  cases h with
  | cells cs g' arr t hv hg' hh hl hc hz =>
    rw [hv] at hg
    simp only [blk, Option.some.injEq] at hg
    subst hg
    rw [hh]; simp
  | rows e sz rs inner ho hr hc ht hz =>
    rcases ho.2 with ⟨hv, _⟩ | ⟨g', cap, cur, hv, hb, hh, _⟩
    · rw [hv] at hg
      simp [blk] at hg
    · rw [hv] at hg
      simp only [blk, Option.some.injEq] at hg
      subst hg
      rw [hh]; simp
  | lp nt tm ps assign body st pend g' rec hv hg' hh =>
    rw [hv] at hg
    simp only [blk, Option.some.injEq] at hg
    subst hg
    rw [hh]; simp
theorem Sim.taken {E : En} {S : St} {Z : Zone} {β : Nat → Value} {a : Act} {w w' : World} {ms : List Nat} (hs : Sim E S Z β a w) (hb : E.w0.heap.size ≤ E.base) (ht : Taken ms w w') (hd : ∀ D ∈ ms, E.base ≤ D ∧ w.heap[D]? = some (.deferred (some []))) :
    Sim E S Z β { a with defers := [] } w' ∧ Ext Z Z w w' := by
  have he : Ext Z Z w w' := ⟨fun _ h => h, fun a _ => ht.cell (fun D h => (hd D h).2) a⟩
  refine ⟨⟨⟨⟨hs.wr.below.trans ⟨ht.os, ht.tape, ht.output, Nat.le_of_eq ht.size.symm, fun k hk => ht.other k fun hm => ?_⟩, by rw [ht.size]; exact hs.wr.hbase, fun a ha => by rw [ht.size]; exact hs.wr.zin a ha, hs.wr.zsp, fun b hl => ?_, hs.wr.dis, hs.wr.sub, ?_⟩, hs.z0, hs.zn, hs.tsz, fun t => (hs.tr t).ext he fun b h => ⟨h, rfl⟩, .none (by rw [ht.size]; exact hs.df.1)⟩, hs.fl, hs.dl⟩, he⟩
  · have := (hd k hm).1; omega
  · obtain ⟨x, hx, hB⟩ := hs.wr.box b hl
    exact ⟨x, hx, hB.ext he (fun b h => ⟨h, rfl⟩) (hs.wr.sub b hl) (fun g hg => ht.other g fun hm => hB.notDef hg _ (hd g hm).2) (fun g hg a ha e => .inl ha) id⟩
  · refine ⟨by rw [ht.size]; exact hs.wr.oth.size, fun k o hk ho => ?_⟩
    rw [ht.other k fun hm => ?_]
    · exact hs.wr.oth.same k o hk ho
    · have h1 := (hd k hm).1
      have h2 := (Array.getElem?_eq_some_iff.1 hk).1
      omega
/-- **THE CONTRACT OF A FUNCTION, OUT OF ITS CODE.** -/
theorem Ok.of_body {P : Program} {tt : TT} (hT : TOk P tt) {f : FuncId} {fn : Func} {c : Code} {args : List AV} {r : Ret} (hf : P.funcs[f]? = some fn) (hb : fn.body = some c) (hname : (fn.name == "runtime.NumGoroutine") = false)
    (hnt : args.length ≤ fn.ntmps) (h : ∀ E : En, E.P = P → E.tt = tt → E.n0 = 0 → E.rd = none → E.w0.heap.size ≤ E.base → E.base ≤ E.mb → AWP E c ⟨fn.ntmps, argsT 0 args, [], [], []⟩ (fun e S => (e = .normal ∨ e = .ret) ∧ RetK tt S fn.results.toList r)) : Ok P f args r := by
  refine ⟨fun vs w => ?_, fun Z w vs hz1 hz2 hsz hA => ?_⟩
  · simp only [callFunc, Sem.run_bind, run_program, Result.andThen_ok, hf, hname, hb, Option.isNone_some, Bool.false_eq_true, if_false, Sem.run_pure]
  · refine (callsIn_wide (n := 0)).1 (callsIn_of_wp_marks hf hb trivial ?_)
    let E : En := { P, tt, base := w.heap.size, w0 := w, Z0 := Z, n0 := 0, rd := none, mb := w.heap.size }
    have hs : Sim E ⟨fn.ntmps, argsT 0 args, [], [], []⟩ Z (fun _ => undef) { tmps := vs ++ Array.replicate (fn.ntmps - vs.size) undef, defers := [] } w := by
      refine ⟨⟨⟨.refl _ _, Nat.le_refl _, hz1, hz2, fun b hb => by simp at hb, fun b b' g hb => by simp at hb, fun b hb => hb.1, .refl _⟩, fun a h => h, fun a h1 h2 => absurd h1 h2, by simp only [Array.size_append, Array.size_replicate]; omega, fun t => ?_, .none (Nat.le_refl _)⟩, by simp, by simp⟩
      rw [argsT_look, if_pos (Nat.zero_le _), Nat.sub_zero]
      cases hx : args[t]? with
      | none => exact .any _
      | some x =>
        have hlt : t < args.length := (List.getElem?_eq_some_iff.1 hx).1
        have hv : vs[t]? = some (vs[t]'(by omega)) := Array.getElem?_eq_getElem (by omega)
        have hg : (vs ++ Array.replicate (fn.ntmps - vs.size) undef).getD t undef = vs[t]'(by omega) := by
          rw [Array.getD_eq_getD_getElem?, Array.getElem?_append_left (by omega), hv]
          rfl
        rw [hg]
        exact (hA t x _ hx hv).ext (Ext.refl _ _) (fun b h => h.elim)
    have hwp := h E rfl rfl rfl rfl (Nat.le_refl _) (Nat.le_refl _) Z _ _ w hs
    refine wpIn_mono hwp fun e a' w1 ⟨S', Z', β', h0, h20, h3, h4⟩ => ?_
    obtain ⟨he, hR⟩ := h4
    suffices hL : LeavesInM Fence.wide 0 P fn a'.tmps (fun e w' => ∃ v Z', e = .returned v ∧ Ext Z Z' w w' ∧ Below w.heap.size w w' ∧ (∀ a, Z' a → a.block < w'.heap.size) ∧ (∀ a, Z' a → a.spot = none) ∧ (∀ a, Z' a → ¬ Z a → w.heap.size ≤ a.block) ∧ RetR w.heap.size Z' w' r v) a'.defers .returning w1 by
      rcases he with rfl | rfl
      · exact hL
      · exact hL
    obtain ⟨_, ms, hm1, hm2, hm3⟩ := h0.df
    rw [hm1]
    refine leaves_marks ms w1 hm2 (fun D h => (hm3 D h).2) fun w' htk => ?_
    obtain ⟨h1, hext⟩ := h0.taken (Nat.le_refl _) htk hm3
    have h2 : Ext Z Z' w w' := h20.ext.trans hext
    -- what is laid aside in the end
    have fin : ∀ (frz : List Nat) (v : Value) (rr : Ret), (∀ b ∈ frz, b < S'.bx.length ∧ b ∉ S'.dead) → RetR w.heap.size (ZF Z' β' (nthB S'.bx) frz) w' rr v → rr = r →
        ∃ v' Z'', Ending.returned v = .returned v' ∧ Ext Z Z'' w w' ∧ Below w.heap.size w w' ∧ (∀ a, Z'' a → a.block < w'.heap.size) ∧ (∀ a, Z'' a → a.spot = none) ∧ (∀ a, Z'' a → ¬ Z a → w.heap.size ≤ a.block) ∧ RetR w.heap.size Z'' w' r v' := fun frz v rr hfr hret hrr => by
      subst hrr
      have hWf := h1.wr.freeze frz hfr
      refine ⟨v, _, rfl, h2.trans (ZF.ext _ _ _ _ _), h1.wr.below, hWf.zin, hWf.zsp, fun a ha hn => ?_, hret⟩
      by_cases hza : Z' a
      · exact h1.zn a hza hn
      · exact ZF_base h1.wr frz hfr a ha hza
    have post : ∀ (v : Value), (results fn a'.tmps).run P w' = .ok v w' → (∃ v' Z'', Ending.returned v = .returned v' ∧ Ext Z Z'' w w' ∧ Below w.heap.size w w' ∧ (∀ a, Z'' a → a.block < w'.heap.size) ∧ (∀ a, Z'' a → a.spot = none) ∧ (∀ a, Z'' a → ¬ Z a → w.heap.size ≤ a.block) ∧ RetR w.heap.size Z'' w' r v') →
        LeavesIn Fence.wide 0 P fn a'.tmps (fun e w' => ∃ v Z', e = .returned v ∧ Ext Z Z' w w' ∧ Below w.heap.size w w' ∧ (∀ a, Z' a → a.block < w'.heap.size) ∧ (∀ a, Z' a → a.spot = none) ∧ (∀ a, Z' a → ¬ Z a → w.heap.size ≤ a.block) ∧ RetR w.heap.size Z' w' r v) [] .returning w' := fun v hv hp => ⟨v, hv, hp⟩
    unfold RetK at hR
    split at hR
    · rename_i x hx
      obtain ⟨y, hy, hR⟩ := hR
      obtain ⟨v, r1, a1⟩ := resV_sound (E := E) hT h1 hy
      have r1 : (resRun x a'.tmps).run P w' = .ok v w' := r1
      have hres : (results fn a'.tmps).run P w' = .ok v w' := by
        have := results_run (P := P) (fn := fn) (tmps := a'.tmps) (w := w') (vs := [v]) (by
          rw [hx, List.mapM_cons, List.mapM_nil]
          simp only [Sem.run_bind, r1, Result.andThen_ok, Sem.run_pure])
        simpa using this
      refine post v hres ?_
      cases r with
      | v z =>
        obtain ⟨hd, rfl⟩ := hR
        have hfr : ∀ b ∈ frzOf y, b < S'.bx.length ∧ b ∉ S'.dead := fun b hb => by
          refine ⟨?_, hd b hb⟩
          cases y <;> simp [frzOf] at hb
          subst hb
          cases a1
          assumption
        exact fin (frzOf y) v (.v _) hfr (thaw_AR h1.wr a1 hfr (fun b h => h)) rfl
      | own e sz rs =>
        simp only at hR
        split at hR
        · rename_i b
          obtain ⟨hd, hf, hbx⟩ := hR
          have hcb : b < S'.bx.length := by cases a1; assumption
          have hvb : v = β' b := by cases a1; rfl
          obtain ⟨xx, hxx, hB⟩ := h1.wr.box b ⟨hcb, hd⟩
          rw [hbx] at hxx
          injection hxx with hxx
          subst hxx
          cases hB with
          | rows e sz rs inner ho hr hc ht hz =>
            refine fin [] v (.own e sz rs) (by simp) ?_ rfl
            rw [hvb]
            refine ⟨inner, ho, hr, fun j row i c u e1 e2 e3 => (hc j row i c u e1 e2 e3).ext (ZF.ext _ _ _ _ _), fun g hg a ha => ?_⟩
            rcases ha with ha | ⟨_, b', hb', _⟩
            · exact hz hf g hg a ha
            · simp at hb'
        · subst hR
          have hv0 : v = .slice none 0 0 := by cases a1; rfl
          subst hv0
          exact fin [] _ (.own e sz []) (by simp) ⟨[], World.ownsRow_nil _ _ _ _, by simp, by simp, fun g hg => by simp [Value.ownBlock] at hg⟩ rfl
        · exact hR.elim
    · rename_i l hl
      obtain ⟨ys, hys, hd, rfl⟩ := hR
      obtain ⟨vs', r1, l1, a1⟩ := resVs_sound (E := E) hT h1 hys
      have hne : vs'.length ≠ 1 := by
        rw [l1]
        have hlen : ∀ (l : List ResultVar) (ys : List AV), resVs tt S' l = some ys → ys.length = l.length := fun l => by
          induction l with
          | nil => intro ys h; simp only [resVs, Option.some.injEq] at h; subst h; rfl
          | cons x l ih =>
            intro ys h
            simp only [resVs] at h
            split at h
            · rename_i y ys' e1 e2
              simp only [Option.some.injEq] at h
              subst h
              simp [ih _ e2]
            · simp at h
        rw [hlen _ _ hys]
        intro h1'
        obtain ⟨x, hx⟩ := List.length_eq_one_iff.1 h1'
        exact hl x hx
      have hres : (results fn a'.tmps).run P w' = .ok (.tuple vs'.toArray) w' := by
        have := results_run (P := P) (fn := fn) (tmps := a'.tmps) (w := w') r1
        rw [this]
        rw [dif_neg (by simpa using hne)]
      refine post _ hres ?_
      have hfr : ∀ b ∈ ys.flatMap frzOf, b < S'.bx.length ∧ b ∉ S'.dead := fun b hb => by
        refine ⟨?_, hd b hb⟩
        obtain ⟨y, hy, hb⟩ := List.mem_flatMap.1 hb
        obtain ⟨i, hi⟩ := List.mem_iff_getElem?.1 hy
        have hil : i < vs'.length := by rw [l1]; exact (List.getElem?_eq_some_iff.1 hi).1
        have := a1 i y _ hi (List.getElem?_eq_getElem hil)
        cases y <;> simp [frzOf] at hb
        subst hb
        exact this.own_cr
      refine fin (ys.flatMap frzOf) _ (.v _) hfr (.tup _ _ (by simp [l1]) fun i x v e1 e2 => ?_) rfl
      rw [List.getElem?_map] at e1
      cases hy : ys[i]? with
      | none => rw [hy] at e1; simp at e1
      | some y =>
        rw [hy] at e1
        simp only [Option.map_some, Option.some.injEq] at e1
        subst e1
        have hm := List.mem_of_getElem? hy
        exact thaw_AR h1.wr (a1 i y v hy (by simpa using e2)) (fun b hb => hfr b (List.mem_flatMap.2 ⟨y, hm, hb⟩)) (fun b hb => List.mem_flatMap.2 ⟨y, hm, hb⟩)
end Go.Vam
