/- An abstract machine over data (part 10): loops, what is forgotten, contracts of functions. -/
import Derived.Test.YtmfbcgheffdghaaGreatG3
import Derived.RangeFuncLeaves
set_option linter.unusedSimpArgs false
set_option linter.unusedVariables false
namespace Go.Vam
open Go.RowKit
set_option linter.unusedVariables false
set_option linter.unusedSimpArgs false

/-! ### 1. What is forgotten, and other names -/
def sig (σ : List Nat) (b : Nat) : Nat := σ.getD b 0
/-- Names of boxes, as a closure holds them. -/
def wkP (n : Nat) (σ : List Nat) : List AV → List AV → Prop
  | [], [] => True
  | .ptr b o :: l, .ptr b' o' :: l' => b' < n ∧ b = sig σ b' ∧ o = o' ∧ wkP n σ l l'
  | .own b :: l, .own b' :: l' => b' < n ∧ b = sig σ b' ∧ wkP n σ l l'
  | _, _ => False
def cloE (g : FuncId) (k : Nat) : AV → List AV
  | .clo g' f cs => if g = g' ∧ f.length = k then f ++ cs else [.any]
  | _ => [.any]
def okA (n : Nat) (σ : List Nat) (x : AV) : AV → Prop
  | .any => True
  | .own b => b < n ∧ x = .own (sig σ b)
  | .ptr b o => b < n ∧ x = .ptr (sig σ b) o
  | .optr b o => b < n ∧ x = .optr (sig σ b) o
  | .tup _ => False
  | .osl _ _ _ => False
  | .clo g first caps => wkP n σ (cloE g first.length x) (first ++ caps)
  | .yld b => b < n ∧ x = .yld (sig σ b)
  | .c y => x = .c y ∨ (x = .nil ∧ y = .sl [])
  | .agg cs => x = .agg cs
  | .pt cs => x = .pt cs
  | .und => x = .und
  | .nil => x = .nil
def wkL (n : Nat) (σ : List Nat) : List AV → List AV → Prop
  | [], [] => True
  | x :: l, x' :: l' => okA n σ x x' ∧ wkL n σ l l'
  | _, _ => False
def wkT (n : Nat) (σ : List Nat) (tm : List (Nat × AV)) : List (Nat × AV) → Prop
  | [] => True
  | (t, x') :: l => okA n σ (look tm t) x' ∧ wkT n σ tm l
def wkBx (n : Nat) (σ : List Nat) : Bx → Bx → Prop
  | .cells cs, .cells cs' => wkL n σ cs cs'
  | .rows e sz rs, .rows e' sz' rs' => e = e' ∧ sz = sz' ∧ rs = rs'
  | .lp nt tm ps a b st pe, .lp nt' tm' ps' a' b' st' pe' => nt = nt' ∧ ps = ps' ∧ a = a' ∧ b = b' ∧ st = st' ∧ pe = pe' ∧ wkT n σ tm tm'
  | .mp ks, .mp ks' => ks = ks'
  | _, _ => False
def wkBs (n : Nat) (σ : List Nat) (S S' : St) : Nat → List Nat → List Bx → Prop
  | _, [], [] => True
  | k, s :: ss, x' :: xs => (k ∈ S'.dead ∨ (s ∉ S.dead ∧ (s ∈ S.fz → k ∈ S'.fz) ∧ ∃ x, nthB S.bx s = some x ∧ wkBx n σ x x')) ∧ wkBs n σ S S' (k + 1) ss xs
  | _, _, _ => False
def fixB : Nat → List Nat → Nat → Prop
  | 0, _, _ => True
  | n + 1, s :: ss, k => s = k ∧ fixB n ss (k + 1)
  | _ + 1, [], _ => False
structure Wk (n0 : Nat) (S S' : St) (σ : List Nat) : Prop where
  nt : S'.nt = S.nt
  nod : σ.Nodup
  fix : fixB n0 σ 0
  tm : wkT S'.bx.length σ S.tm S'.tm
  bx : wkBs S'.bx.length σ S S' 0 σ S'.bx
  fl : ∀ b ∈ S'.fz, b < S'.bx.length
  dl : ∀ b ∈ S'.dead, b < S'.bx.length

theorem wkL_spec {n : Nat} {σ : List Nat} : ∀ {l l' : List AV}, wkL n σ l l' → l.length = l'.length ∧ ∀ (i : Nat) (x x' : AV), l[i]? = some x → l'[i]? = some x' → okA n σ x x'
  | [], [], _ => ⟨rfl, by simp⟩
  | x :: l, x' :: l', h => by
    obtain ⟨h1, h2⟩ := wkL_spec h.2
    refine ⟨by simp [h1], fun i y y' e1 e2 => ?_⟩
    match i with
    | 0 =>
      simp at e1 e2
      subst e1; subst e2
      exact h.1
    | i + 1 => exact h2 i y y' e1 e2
  | [], _ :: _, h => h.elim
  | _ :: _, [], h => h.elim
theorem wkT_spec {n : Nat} {σ : List Nat} {tm : List (Nat × AV)} : ∀ {l : List (Nat × AV)}, wkT n σ tm l → ∀ t, okA n σ (look tm t) (look l t)
  | [], _, t => trivial
  | (t', x') :: l, h, t => by
    simp only [look]
    split
    · rename_i e; subst e; exact h.1
    · exact wkT_spec h.2 t
theorem wkBs_spec {n : Nat} {σ : List Nat} {S S' : St} : ∀ (k : Nat) (ss : List Nat) (xs : List Bx), wkBs n σ S S' k ss xs → ss.length = xs.length ∧
    ∀ (i s : Nat) (x' : Bx), ss[i]? = some s → xs[i]? = some x' → (k + i) ∈ S'.dead ∨ (s ∉ S.dead ∧ (s ∈ S.fz → (k + i) ∈ S'.fz) ∧ ∃ x, nthB S.bx s = some x ∧ wkBx n σ x x')
  | k, [], [], _ => ⟨rfl, by simp⟩
  | k, s :: ss, x' :: xs, h => by
    obtain ⟨h1, h2⟩ := wkBs_spec (k + 1) ss xs h.2
    refine ⟨by simp [h1], fun i s' y e1 e2 => ?_⟩
    match i with
    | 0 =>
      simp at e1 e2
      subst e1; subst e2
      exact h.1
    | i + 1 =>
      have := h2 i s' y e1 e2
      rw [show k + 1 + i = k + (i + 1) by omega] at this
      exact this
  | k, [], _ :: _, h => h.elim
  | k, _ :: _, [], h => h.elim
theorem fixB_spec : ∀ (n : Nat) (ss : List Nat) (k : Nat), fixB n ss k → ∀ b, b < n → ss[b]? = some (k + b)
  | 0, _, _, _, b, hb => by omega
  | n + 1, s :: ss, k, h, 0, hb => by simp [h.1]
  | n + 1, s :: ss, k, h, b + 1, hb => by
    have := fixB_spec n ss (k + 1) h.2 b (by omega)
    rw [List.getElem?_cons_succ, this]
    congr 1
    omega
  | n + 1, [], k, h, b, hb => h.elim
theorem wkP_spec {n : Nat} {σ : List Nat} : ∀ {l l' : List AV}, wkP n σ l l' → l.length = l'.length ∧ ∀ (i : Nat) (x' : AV), l'[i]? = some x' → ∃ b, b < n ∧ ((∃ o, x' = .ptr b o ∧ l[i]? = some (.ptr (sig σ b) o)) ∨ x' = .own b ∧ l[i]? = some (.own (sig σ b)))
  | [], [], _ => ⟨rfl, by simp⟩
  | [], x' :: l', h => by cases x' <;> exact h.elim
  | x :: l, [], h => by cases x <;> exact h.elim
  | x :: l, x' :: l', h => by
    cases x <;> cases x' <;> first | exact h.elim | skip
    · obtain ⟨h1, h2, h3, h4⟩ := h
      obtain ⟨k1, k2⟩ := wkP_spec h4
      refine ⟨by simp [k1], fun i x' hx => ?_⟩
      cases i with
      | zero => simp at hx; subst hx; exact ⟨_, h1, .inl ⟨_, rfl, by simp [h2, h3]⟩⟩
      | succ i => simpa using k2 i x' (by simpa using hx)
    · obtain ⟨h1, h2, h4⟩ := h
      obtain ⟨k1, k2⟩ := wkP_spec h4
      refine ⟨by simp [k1], fun i x' hx => ?_⟩
      cases i with
      | zero => simp at hx; subst hx; exact ⟨_, h1, .inr ⟨rfl, by simp [h2]⟩⟩
      | succ i => simpa using k2 i x' (by simpa using hx)
theorem cloE_spec {g : FuncId} {k : Nat} {x : AV} : (∃ f cs, x = .clo g f cs ∧ f.length = k ∧ cloE g k x = f ++ cs) ∨ cloE g k x = [.any] := by
  unfold cloE
  split
  · split
    · rename_i h; obtain ⟨rfl, h⟩ := h; exact .inl ⟨_, _, rfl, h, rfl⟩
    · exact .inr rfl
  · exact .inr rfl
theorem okA_AR {Z : Zone} {w : World} {β : Nat → Value} {cr : Nat → Prop} {n : Nat} {σ : List Nat} {x x' : AV} {v : Value} (h : okA n σ x x') (hA : AR Z w β cr x v) : AR Z w (fun b => β (sig σ b)) (fun b => b < n) x' v := by
  cases x' with
  | any => exact .any _
  | own b =>
    obtain ⟨hb, rfl⟩ := h
    cases hA
    exact AR.own (β := fun b => β (sig σ b)) b hb
  | ptr b o =>
    obtain ⟨hb, rfl⟩ := h
    cases hA with | ptr _ _ g _ hg => exact .ptr b o g hb hg
  | optr b o =>
    obtain ⟨hb, rfl⟩ := h
    cases hA with | optr _ _ g n cap _ hg => exact .optr b o g n cap hb hg
  | tup xs => exact h.elim
  | osl => exact h.elim
  | clo g f c =>
    have h : wkP n σ (cloE g f.length x) (f ++ c) := h
    obtain ⟨k1, k2⟩ := wkP_spec h
    rcases cloE_spec (g := g) (k := f.length) (x := x) with ⟨f', c', rfl, hl0, e⟩ | e
    · rw [e] at k1 k2
      simp only [List.length_append] at k1
      cases hA with
      | clo _ _ _ fs vs hl hl' h1 h2 =>
        refine .clo g _ _ fs vs (by rw [hl, hl0]) (by omega) (fun i x' v hx hv => ?_) (fun i x' v hx hv => ?_)
        · have hi : i < f.length := (List.getElem?_eq_some_iff.1 hx).1
          obtain ⟨b, hb, ⟨o, rfl, hc⟩ | ⟨rfl, hc⟩⟩ := k2 i x' (by rw [List.getElem?_append_left hi]; exact hx)
          · rw [List.getElem?_append_left (by omega)] at hc
            have := h1 i _ v hc hv
            cases this with | ptr _ _ g' _ hg => exact .ptr b o g' hb hg
          · rw [List.getElem?_append_left (by omega)] at hc
            have := h1 i _ v hc hv
            cases this
            exact AR.own (β := fun b => β (sig σ b)) b hb
        · obtain ⟨b, hb, ⟨o, rfl, hc⟩ | ⟨rfl, hc⟩⟩ := k2 (f.length + i) x' (by rw [List.getElem?_append_right (by omega), Nat.add_sub_cancel_left]; exact hx)
          · rw [List.getElem?_append_right (by omega), show f.length + i - f'.length = i by omega] at hc
            have := h2 i _ v hc hv
            cases this with | ptr _ _ g' _ hg => exact .ptr b o g' hb hg
          · rw [List.getElem?_append_right (by omega), show f.length + i - f'.length = i by omega] at hc
            have := h2 i _ v hc hv
            cases this
            exact AR.own (β := fun b => β (sig σ b)) b hb
    · rw [e] at k1 k2
      generalize f ++ c = fc at k1 k2
      match fc, k1 with
      | [y], _ =>
        obtain ⟨b, hb, ⟨o, _, hc⟩ | ⟨_, hc⟩⟩ := k2 0 y rfl <;> simp at hc
  | yld b =>
    obtain ⟨hb, rfl⟩ := h
    cases hA with | yld _ g _ hg => exact .yld b g hb hg
  | c y =>
    rcases h with h | ⟨h1, h2⟩
    · subst h
      cases hA with | c _ _ h => exact .c _ _ h
    · subst h1; subst h2
      cases hA
      exact .c _ _ (CR.nil _ _)
  | agg cs =>
    cases h
    cases hA with | agg _ _ h1 h2 => exact .agg _ _ h1 h2
  | pt cs =>
    cases h
    cases hA with | pt _ _ vals h1 h2 => exact .pt _ _ vals h1 h2
  | und =>
    cases h
    cases hA
    exact .und
  | nil =>
    cases h
    cases hA
    exact .nil
theorem Wk.sim {E : En} {S S' : St} {σ : List Nat} (h : Wk E.n0 S S' σ) {Z : Zone} {β : Nat → Value} {a : Act} {w : World} (hs : Sim E S Z β a w) :
    ∃ β', Sim E S' Z β' a w ∧ Evo E.n0 Z β Z β' w w := by
  have htm := wkT_spec h.tm
  obtain ⟨hb1, hb2⟩ := wkBs_spec 0 σ S'.bx h.bx
  have hsig : ∀ b, b < S'.bx.length → σ[b]? = some (sig σ b) := fun b hb => by
    unfold sig
    rw [List.getD_eq_getElem?_getD, List.getElem?_eq_getElem (by omega)]
    rfl
  have hlive : ∀ b, b < S'.bx.length → b ∉ S'.dead → ∃ x x', nthB S.bx (sig σ b) = some x ∧ nthB S'.bx b = some x' ∧ wkBx S'.bx.length σ x x' ∧ sig σ b ∉ S.dead ∧ (sig σ b ∈ S.fz → b ∈ S'.fz) := fun b hb hd => by
    have hx' : S'.bx[b]? = some S'.bx[b] := List.getElem?_eq_getElem hb
    rcases hb2 b _ _ (hsig b hb) hx' with h | ⟨h1, h2, x, h3, h4⟩
    · rw [Nat.zero_add] at h; exact absurd h hd
    · rw [Nat.zero_add] at h2
      exact ⟨x, _, h3, by rw [nthB_eq]; exact hx', h4, h1, h2⟩
  have hlt : ∀ b, b < S'.bx.length → b ∉ S'.dead → sig σ b < S.bx.length ∧ sig σ b ∉ S.dead := fun b hb hd => by
    obtain ⟨x, x', h1, _, _, h2, _⟩ := hlive b hb hd
    rw [nthB_eq] at h1
    exact ⟨(List.getElem?_eq_some_iff.1 h1).1, h2⟩
  have hinj : ∀ b b', b < S'.bx.length → b' < S'.bx.length → b ≠ b' → sig σ b ≠ sig σ b' := fun b b' hb hb' hne e => by
    have e1 := hsig b hb
    have e2 := hsig b' hb'
    rw [← e] at e2
    exact hne ((List.getElem?_inj (by rw [hb1]; exact hb) h.nod).1 (e1.trans e2.symm))
  refine ⟨fun b => β (sig σ b), ⟨⟨⟨hs.wr.below, hs.wr.hbase, hs.wr.zin, hs.wr.zsp, fun b hb => ?_, fun b b' g h1 h2 hne => ?_, fun b hb => hb.1, hs.wr.oth⟩, hs.z0, hs.zn, by rw [hs.tsz, h.nt], fun t => ?_, hs.df⟩, h.fl, h.dl⟩, ⟨.refl _ _, fun b hb => ?_, .refl _⟩⟩
  · obtain ⟨x, x', h1, h2, h3, h4, h5⟩ := hlive b hb.1 hb.2
    refine ⟨x', h2, ?_⟩
    obtain ⟨y, hy, hB⟩ := hs.wr.box (sig σ b) (hlt b hb.1 hb.2)
    rw [h1] at hy
    injection hy with hy
    subst hy
    cases hB with
    | cells cs g arr t hv hg hh hl' hc hz =>
      cases x' with
      | cells cs' =>
        obtain ⟨l1, l2⟩ := wkL_spec h3
        refine .cells cs' g arr t hv hg hh (by omega) (fun i y v e1 e2 => ?_) (fun hn => hz (fun hf => hn (h5 hf)))
        have hi : i < cs.length := by rw [l1]; exact (List.getElem?_eq_some_iff.1 e1).1
        exact okA_AR (l2 i _ y (List.getElem?_eq_getElem hi) e1) (hc i _ v (List.getElem?_eq_getElem hi) e2)
      | rows => exact h3.elim
      | lp => exact h3.elim
      | mp => exact h3.elim
    | mp ks g es clock hv hg hh hk hz =>
      cases x' with
      | cells => exact h3.elim
      | rows => exact h3.elim
      | lp => exact h3.elim
      | mp ks' =>
        obtain rfl := h3
        exact .mp _ g es clock hv hg hh hk hz
    | lp nt tm ps assign body st pend g rec hv hg hh hps has hbd hst hpd hsz hc hz =>
      cases x' with
      | cells => exact h3.elim
      | rows => exact h3.elim
      | mp => exact h3.elim
      | lp nt' tm' ps' a' b' st' pe' =>
        obtain ⟨rfl, rfl, rfl, rfl, rfl, rfl, h7⟩ := h3
        exact .lp _ _ _ _ _ _ _ g rec hv hg hh hps has hbd hst hpd hsz (fun t => okA_AR (wkT_spec h7 t) (hc t)) hz
    | rows e sz rs inner ho hr hc ht hz =>
      cases x' with
      | cells => exact h3.elim
      | lp => exact h3.elim
      | mp => exact h3.elim
      | rows e' sz' rs' =>
        obtain ⟨rfl, rfl, rfl⟩ := h3
        exact .rows e sz rs inner ho hr hc ht (fun hn => hz (fun hf => hn (h5 hf)))
  · exact hs.wr.dis _ _ g (hlt b h1.1 h1.2) (hlt b' h2.1 h2.2) (hinj b b' h1.1 h2.1 hne)
  · exact okA_AR (htm t) (hs.tr t)
  · have := fixB_spec _ _ _ h.fix b hb
    simp only [sig, getD_of this, Nat.zero_add]
theorem AWP.weaken {E : En} {c : Code} {S S' : St} {Q : Exit → St → Prop} {σ : List Nat} (hw : Wk E.n0 S S' σ) (h : AWP E c S' Q) : AWP E c S Q := fun Z β a w hs => by
  obtain ⟨β', h1, h2⟩ := hw.sim hs
  exact wpIn_mono (h Z β' a w h1) fun e a' w' k => k.trans h2

/-- A box for a list that has no room yet. -/
theorem Sim.nilBox {E : En} {S : St} {Z : Zone} {β : Nat → Value} {a : Act} {w : World} (hs : Sim E S Z β a w) (e sz : Nat) :
    ∃ β' : Nat → Value, Sim E { S with bx := S.bx ++ [.rows e sz []] } Z β' a w ∧ β' S.bx.length = .slice none 0 0 ∧ Evo S.bx.length Z β Z β' w w := by
  let β' : Nat → Value := fun b => if b = S.bx.length then .slice none 0 0 else β b
  have hβ : ∀ b, b < S.bx.length → β' b = β b := fun b hb => by simp [β', show b ≠ S.bx.length by omega]
  have hcr : ∀ b, b < S.bx.length → b < (S.bx ++ [Bx.rows e sz []]).length ∧ β' b = β b := fun b hb => ⟨by simp; omega, hβ b hb⟩
  have hlen : (S.bx ++ [Bx.rows e sz []]).length = S.bx.length + 1 := by simp
  refine ⟨β', ⟨⟨⟨hs.wr.below, hs.wr.hbase, hs.wr.zin, hs.wr.zsp, fun b hb => ?_, fun b b' g h1 h2 hne e1 e2 => ?_, fun b hb => hb.1, hs.wr.oth⟩, hs.z0, hs.zn, hs.tsz, fun t => (hs.tr t).ext (Ext.refl _ _) hcr, hs.df⟩, fun b hb => by have := hs.fl b hb; simp; omega, fun b hb => by have := hs.dl b hb; simp; omega⟩, by simp [β'], ⟨.refl _ _, hβ, .refl _⟩⟩
  · by_cases hbl : b = S.bx.length
    · subst hbl
      refine ⟨.rows e sz [], by rw [nthB_eq]; simp, .rows e sz [] [] ⟨by simp, .inl ⟨by simp [β'], rfl⟩⟩ (by simp) (by simp) (fun g hg => ?_) (fun _ g hg => ?_)⟩ <;> simp [β', Value.ownBlock] at hg
    · have hb' : b < S.bx.length := by have := hb.1; simp at this; omega
      obtain ⟨y, hy, hB⟩ := hs.wr.box b ⟨hb', hb.2⟩
      refine ⟨y, ?_, hB.ext (Ext.refl _ _) hcr hb' (fun _ _ => rfl) (fun g hg a ha e => .inl ha) id⟩
      rw [nthB_eq] at hy ⊢
      rw [List.getElem?_append_left hb']
      exact hy
  · have blkn : ∀ g, blk (β' S.bx.length) ≠ some g := fun g => by simp [β', blk]
    have h1l := h1.1
    have h2l := h2.1
    rw [hlen] at h1l h2l
    by_cases c1 : b = S.bx.length
    · subst c1; exact blkn g e1
    · by_cases c2 : b' = S.bx.length
      · subst c2; exact blkn g e2
      · rw [hβ b (by omega)] at e1
        rw [hβ b' (by omega)] at e2
        exact hs.wr.dis b b' g ⟨by omega, h1.2⟩ ⟨by omega, h2.2⟩ hne e1 e2
theorem AR.nil_own {Z : Zone} {w : World} {β : Nat → Value} {cr : Nat → Prop} {v : Value} {n : Nat} (h : AR Z w β cr .nil v) (hn : cr n) (hβ : β n = .slice none 0 0) : AR Z w β cr (.own n) v := by
  have : v = β n := by rw [hβ]; cases h; rfl
  rw [this]
  exact .own n hn
/-- A nil list in a temporary is an empty one of one's own. -/
theorem AWP.nilT {E : En} {c : Code} {S : St} {Q : Exit → St → Prop} (t e sz : Nat) (ht : look S.tm t = .nil) (hn : E.n0 ≤ S.bx.length)
    (h : AWP E c { S with tm := (t, .own S.bx.length) :: S.tm, bx := S.bx ++ [.rows e sz []] } Q) : AWP E c S Q := fun Z β a w hs => by
  obtain ⟨β', h1, h2, h3⟩ := hs.nilBox e sz
  have hS : Sim E { S with tm := (t, .own S.bx.length) :: S.tm, bx := S.bx ++ [.rows e sz []] } Z β' a w := by
    refine ⟨⟨h1.wr, h1.z0, h1.zn, h1.tsz, fun t' => ?_, h1.df⟩, h1.fl, h1.dl⟩
    simp only [look]
    split
    · rename_i e1
      subst e1
      have := h1.tr t
      simp only [ht] at this
      exact this.nil_own (by simp) h2
    · exact h1.tr t'
  exact wpIn_mono (h Z β' a w hS) fun e a' w' k => k.trans (h3.mono hn)
theorem Sim.rebox {E : En} {S : St} {Z : Zone} {β : Nat → Value} {a : Act} {w : World} {bx' : List Bx} (hs : Sim E S Z β a w) (hl : bx'.length = S.bx.length)
    (h : ∀ b, b < S.bx.length → b ∉ S.dead → ∃ x', nthB bx' b = some x' ∧ BoxR E.base Z w β (fun b => b < S.bx.length) (fun b => b ∈ S.fz) b x') : Sim E ⟨S.nt, S.tm, bx', S.dead, S.fz⟩ Z β a w := by
  have e1 : (fun b => b < bx'.length) = fun b => b < S.bx.length := by rw [hl]
  have e2 : (fun b => b < bx'.length ∧ b ∉ S.dead) = fun b => b < S.bx.length ∧ b ∉ S.dead := by rw [hl]
  refine ⟨?_, fun b hb => by rw [hl]; exact hs.fl b hb, fun b hb => by rw [hl]; exact hs.dl b hb⟩
  show GSim E S.nt (look S.tm) (fun b => b < bx'.length) (fun b => b < bx'.length ∧ b ∉ S.dead) (fun b => b ∈ S.fz) (nthB bx') Z β a w
  rw [e1, e2]
  exact ⟨⟨hs.wr.below, hs.wr.hbase, hs.wr.zin, hs.wr.zsp, fun b hb => h b hb.1 hb.2, hs.wr.dis, hs.wr.sub, hs.wr.oth⟩, hs.z0, hs.zn, hs.tsz, hs.tr, hs.df⟩
/-- A nil list in a box's cell is an empty one of one's own. -/
theorem AR.sc_nil {Z : Zone} {w : World} {β : Nat → Value} {cr : Nat → Prop} {v : Value} (h : AR Z w β cr (.c (.sc (.slice none 0 0))) v) : AR Z w β cr .nil v := by
  cases h with
  | c _ _ h => cases h with | sc _ _ => exact .nil
theorem AWP.nilC2 {E : En} {c : Code} {S : St} {Q : Exit → St → Prop} (b k e sz : Nat) {cs : List AV} (hb : nthB S.bx b = some (.cells cs)) (hk : ∃ x, cs[k]? = some x ∧ (x = .nil ∨ x = .c (.sc (.slice none 0 0)))) (hn : E.n0 ≤ S.bx.length)
    (h : AWP E c ⟨S.nt, S.tm, setBx S.bx b (.cells (cs.set k (.own S.bx.length))) ++ [.rows e sz []], S.dead, S.fz⟩ Q) : AWP E c S Q := fun Z β a w hs => by
  obtain ⟨β', h1, h2, h3⟩ := hs.nilBox e sz
  have hbl : b < S.bx.length := by rw [nthB_eq] at hb; exact (List.getElem?_eq_some_iff.1 hb).1
  have hlen : (setBx S.bx b (.cells (cs.set k (.own S.bx.length))) ++ [Bx.rows e sz []]).length = (S.bx ++ [Bx.rows e sz []]).length := by simp [setBx_eq]
  have hS := h1.rebox (bx' := setBx S.bx b (.cells (cs.set k (.own S.bx.length))) ++ [.rows e sz []]) hlen (fun b' hb' hd' => by
    obtain ⟨x, hx, hB⟩ := h1.wr.box b' ⟨hb', hd'⟩
    by_cases hbb : b' = b
    · subst hbb
      have hxe : x = .cells cs := by
        rw [nthB_eq] at hx hb
        simp only [List.getElem?_append_left hbl] at hx
        rw [hb] at hx
        exact (Option.some.inj hx).symm
      subst hxe
      refine ⟨.cells (cs.set k (.own S.bx.length)), by rw [nthB_eq, List.getElem?_append_left (by simpa [setBx_eq] using hbl), setBx_eq, List.getElem?_set_self hbl], ?_⟩
      cases hB with
      | cells _ g arr t hv hg hh hl hc hz =>
        refine .cells _ g arr t hv hg hh (by simpa using hl) (fun i y v e1 e2 => ?_) hz
        by_cases hik : k = i
        · subst hik
          obtain ⟨x0, hk, hx0⟩ := hk
          have hkl : k < cs.length := (List.getElem?_eq_some_iff.1 hk).1
          rw [List.getElem?_set_self hkl] at e1
          simp only [Option.some.injEq] at e1
          subst e1
          have hA := hc k _ v hk e2
          rcases hx0 with rfl | rfl
          · exact hA.nil_own (by simp) h2
          · exact hA.sc_nil.nil_own (by simp) h2
        · rw [List.getElem?_set_ne hik] at e1
          exact hc i y v e1 e2
    · refine ⟨x, ?_, hB⟩
      rw [nthB_eq] at hx ⊢
      simp only at hx
      rw [← hx]
      by_cases hl : b' < S.bx.length
      · rw [List.getElem?_append_left hl, List.getElem?_append_left (by simpa [setBx_eq] using hl), setBx_eq, List.getElem?_set_ne (fun e => hbb e.symm)]
      · have hl' : ¬ b' < (setBx S.bx b (.cells (cs.set k (.own S.bx.length)))).length := by simpa [setBx_eq] using hl
        rw [List.getElem?_append_right (by omega), List.getElem?_append_right (by omega)]
        simp [setBx_eq])
  exact wpIn_mono (h Z β' a w hS) fun e a' w' k => k.trans (h3.mono hn)

/-! ### 2. Loops -/
theorem AWP.nilC {E : En} {c : Code} {S : St} {Q : Exit → St → Prop} (b k e sz : Nat) {cs : List AV} (hb : nthB S.bx b = some (.cells cs)) (hk : cs[k]? = some .nil) (hn : E.n0 ≤ S.bx.length)
    (h : AWP E c ⟨S.nt, S.tm, setBx S.bx b (.cells (cs.set k (.own S.bx.length))) ++ [.rows e sz []], S.dead, S.fz⟩ Q) : AWP E c S Q := AWP.nilC2 b k e sz hb ⟨_, hk, .inl rfl⟩ hn h
theorem AWP.loop {ι : Type} {E : En} {c : Code} {S : St} {Q : Exit → St → Prop} (I : ι → St) (μ : ι → Nat) (i0 : ι) (h0 : ∃ σ, Wk E.n0 S (I i0) σ) 
    (round : ∀ i, AWP E c (I i) (seqK (fun S' => ∃ j σ, Wk E.n0 S' (I j) σ ∧ μ j < μ i) Q)) : AWP E (.loop c) S Q := fun Z β a w hs => by
  obtain ⟨σ, hσ⟩ := h0
  obtain ⟨β0, hs0, he0⟩ := hσ.sim hs
  refine wpIn_loop_ghost (fun n a' w' => ∃ i, μ i = n ∧ ∃ Z' β', Sim E (I i) Z' β' a' w' ∧ Evo E.n0 Z β Z' β' w w') (μ i0) ⟨i0, rfl, Z, β0, hs0, he0⟩ ?_
  rintro n a' w' ⟨i, rfl, Z', β', hs', he'⟩
  refine wpIn_mono (round i Z' β' a' w' hs') fun e a'' w'' ⟨S', Z'', β'', h1, h2, h3, h4⟩ => ?_
  cases e with
  | normal =>
    obtain ⟨j, σ', hwk, hlt⟩ := h4
    obtain ⟨β3, hs3, he3⟩ := hwk.sim h1
    exact ⟨μ j, hlt, j, rfl, Z'', β3, hs3, (he'.trans h2).trans he3⟩
  | exit id => exact ⟨S', Z'', β'', h1, he'.trans h2, h3, h4⟩
  | goto l => exact ⟨S', Z'', β'', h1, he'.trans h2, h3, h4⟩
  | ret => exact ⟨S', Z'', β'', h1, he'.trans h2, h3, h4⟩
  | panic c => exact ⟨S', Z'', β'', h1, he'.trans h2, h3, h4⟩
  | outgrown => exact ⟨S', Z'', β'', h1, he'.trans h2, h3, h4⟩

theorem AR.own_cr {Z : Zone} {w : World} {β : Nat → Value} {cr : Nat → Prop} {b : Nat} {v : Value} (h : AR Z w β cr (.own b) v) : cr b := by cases h; assumption
theorem AR.ptr_cr {Z : Zone} {w : World} {β : Nat → Value} {cr : Nat → Prop} {b off : Nat} {v : Value} (h : AR Z w β cr (.ptr b off) v) : cr b := by cases h; assumption
theorem AR.optr_cr {Z : Zone} {w : World} {β : Nat → Value} {cr : Nat → Prop} {b off : Nat} {v : Value} (h : AR Z w β cr (.optr b off) v) : cr b := by cases h; assumption

/-! ### 3. Contracts -/
def resV (tt : TT) (S : St) : ResultVar → Option AV
  | .tmp t => some (look S.tm t)
  | .cell a ty => match look S.tm a, tt ty with
    | .ptr b off, some i => if b ∈ S.dead then none else match nthB S.bx b with
      | some (.cells cs) => if off + i.n ≤ cs.length ∧ 0 < i.n ∧ (i.ag = false → i.n = 1) ∧ (i.ag = true → ((cs.drop off).take i.n).all isC = true) then some (if i.ag then .agg (((cs.drop off).take i.n).map toC) else nth cs off) else none
      | _ => none
    | _, _ => none
def resVs (tt : TT) (S : St) : List ResultVar → Option (List AV)
  | [] => some []
  | x :: l => match resV tt S x, resVs tt S l with
    | some y, some ys => some (y :: ys)
    | _, _ => none
def RetK (tt : TT) (S : St) (results : List ResultVar) (r : Ret) : Prop :=
  match results with
  | [x] => ∃ y, resV tt S x = some y ∧ match r with
    | .v z => (∀ b ∈ frzOf y, b ∉ S.dead) ∧ z = thawF (nthB S.bx) y
    | .own e sz rs => match y with
      | .own b => b ∉ S.dead ∧ b ∉ S.fz ∧ nthB S.bx b = some (.rows e sz rs)
      | .nil => rs = []
      | _ => False
    | .mix _ _ _ _ _ => False
  | l => ∃ ys, resVs tt S l = some ys ∧ (((∀ b ∈ ys.flatMap frzOf, b ∉ S.dead) ∧ r = .v (.tup (ys.map (thawF (nthB S.bx))))) ∨
      ∃ ypre y ypost e sz rs, ys = ypre ++ y :: ypost ∧ (∀ b ∈ (ypre ++ ypost).flatMap frzOf, b ∉ S.dead ∧ y ≠ .own b) ∧ ((∃ b, y = .own b ∧ b ∉ S.dead ∧ b ∉ S.fz ∧ nthB S.bx b = some (.rows e sz rs)) ∨ (y = .nil ∧ rs = [])) ∧
        r = .mix (ypre.map (thawF (nthB S.bx))) e sz rs (ypost.map (thawF (nthB S.bx))))
theorem load_ptr {P : Program} {base : Nat} {w0 : World} {Z : Zone} {β : Nat → Value} {cr lv fz : Nat → Prop} {bx : Nat → Option Bx} {w : World} {t : TypeId} {i : TyI} {b off : Nat} {cs : List AV} {q : Value} (hty : tyOk P t i = true) (hn : i.ag = false → i.n = 1) (hlen : off + i.n ≤ cs.length) (hn0 : 0 < i.n)
    (hC : i.ag = true → ((cs.drop off).take i.n).all isC = true)
    (hW : WR base w0 Z β cr lv fz bx w) (hx : AR Z w β cr (.ptr b off) q) (hlv : lv b) (hb : bx b = some (.cells cs)) :
    ∃ ad v, q = .pointer (some ad) ∧ (loadVar t ad).run P w = .ok v w ∧ AR Z w β cr (if i.ag then .agg (((cs.drop off).take i.n).map toC) else nth cs off) v := by
  have key : OpRun P { dst := none, op := .load t (.const q), type := 0, pos := "", after := #[], guard := none } ⟨#[], []⟩ w (Post base w0 Z β cr lv fz bx 0 { res := if i.ag then .agg (((cs.drop off).take i.n).map toC) else nth cs off } w) :=
    op_loadPtr rfl hty hn hlen hn0 hC hW hx hlv hb
  cases hx with
  | ptr b off g hcb h =>
    obtain ⟨xx, hxx, hB⟩ := hW.box b hlv
    rw [hb] at hxx
    injection hxx with hxx
    subst hxx
    cases hB with
    | cells cs g' arr ty hv hg hh hl hc hz =>
      have hgg : g' = g := by rw [hv] at h; simpa using h
      subst hgg
      have hcell : ∀ k, k < i.n → w.cell? ((⟨g', off, none⟩ : Addr).add k) = some (arr.getD (off + k) undef) := fun k hk => by
        rw [add_lit, cell_of_row w g' (off + k) arr ty (0, 0) hh]
        have : off + k < arr.size := by omega
        simp [this]
      have hr := run_loadAt (P := P) (w := w) hty ⟨g', off, none⟩ (fun k => arr.getD (off + k) undef) hn hcell
      simp only [Instr.loadAt, Instr.sureAddr, Sem.run_bind, Sem.run_pure, Result.andThen_ok] at hr
      refine ⟨_, _, rfl, hr, ?_⟩
      have hat : ∀ (k : Nat) (x : AV), k < i.n → cs[off + k]? = some x → AR Z w β cr x (arr.getD (off + k) undef) := fun k x hk hx => by
        have hlt : off + k < arr.size := by omega
        refine hc (off + k) x _ hx ?_
        simp [hlt]
      cases ha : i.ag with
      | true =>
        simp only [if_true]
        refine .agg _ _ (by simp; omega) fun k c v h1 h2 => ?_
        rw [List.getElem?_map, List.getElem?_take] at h1
        split at h1
        · rename_i hk
          rw [List.getElem?_drop] at h1
          cases hx : cs[off + k]? with
          | none => rw [hx] at h1; simp at h1
          | some y =>
            rw [hx] at h1
            simp only [Option.map_some, Option.some.injEq] at h1
            subst h1
            have hvk : v = arr.getD (off + k) undef := by simpa [hk] using h2.symm
            subst hvk
            have hall := hC ha
            rw [List.all_eq_true] at hall
            exact toC_sound (hat k y hk hx) (hall y (List.mem_of_getElem? (i := k) (by rw [List.getElem?_take, if_pos hk, List.getElem?_drop]; exact hx)))
        · simp at h1
      | false =>
        have hlt : off < cs.length := by omega
        simp only [Bool.false_eq_true, if_false, nth_eq]
        rw [List.getElem?_eq_getElem hlt]
        exact hat 0 _ hn0 (List.getElem?_eq_getElem hlt)
def resRun (x : ResultVar) (tmps : Array Value) : Sem Value :=
  match x with
  | .tmp t => pure (tmps.getD t undef)
  | .cell a t => do loadVar t (← asAddr (tmps.getD a undef))
theorem resV_sound {E : En} (hT : TOk E.P E.tt) {S : St} {Z : Zone} {β : Nat → Value} {a : Act} {w : World} (hs : Sim E S Z β a w) {x : ResultVar} {y : AV} (h : resV E.tt S x = some y) :
    ∃ v, (resRun x a.tmps).run E.P w = .ok v w ∧ AR Z w β (fun b => b < S.bx.length) y v := by
  cases x with
  | tmp t =>
    simp only [resV, Option.some.injEq] at h
    subst h
    exact ⟨_, rfl, hs.evT (.tmp t)⟩
  | cell ad ty =>
    have hx := hs.evT (.tmp ad)
    have he : evT S.tm (.tmp ad) = look S.tm ad := rfl
    rw [he] at hx
    simp only [resV] at h
    split at h
    · rename_i b off i hn hti
      rw [hn] at hx
      have hcb := hx.ptr_cr
      split at h
      · simp at h
      · rename_i hd
        split at h
        · rename_i cs hbx
          split at h
          · rename_i hc
            simp only [Option.some.injEq] at h
            subst h
            obtain ⟨c1, c2, c3, c4⟩ := hc
            obtain ⟨addr, v, e1, e2, e3⟩ := load_ptr (hT ty i hti) c3 c1 c2 c4 hs.wr hx ⟨hcb, hd⟩ hbx
            refine ⟨v, ?_, e3⟩
            simp only [Act.eval] at e1
            simp only [resRun, e1, asAddr, Sem.run_bind, Sem.run_pure, Result.andThen_ok, e2]
          · simp at h
        · simp at h
    · simp at h
theorem resVs_sound {E : En} (hT : TOk E.P E.tt) {S : St} {Z : Zone} {β : Nat → Value} {a : Act} {w : World} (hs : Sim E S Z β a w) : ∀ {l : List ResultVar} {ys : List AV}, resVs E.tt S l = some ys →
    ∃ vs : List Value, (l.mapM fun x => resRun x a.tmps).run E.P w = .ok vs w ∧ vs.length = ys.length ∧ ∀ (i : Nat) (y : AV) (v : Value), ys[i]? = some y → vs[i]? = some v → AR Z w β (fun b => b < S.bx.length) y v
  | [], ys, h => by
    simp only [resVs, Option.some.injEq] at h
    subst h
    exact ⟨[], by simp, rfl, by simp⟩
  | x :: l, ys, h => by
    simp only [resVs] at h
    cases h1 : resV E.tt S x with
    | none => rw [h1] at h; simp at h
    | some y =>
      cases h2 : resVs E.tt S l with
      | none => rw [h1, h2] at h; simp at h
      | some ys' =>
        rw [h1, h2] at h
        simp only [Option.some.injEq] at h
        subst h
        obtain ⟨v, r1, a1⟩ := resV_sound hT hs h1
        obtain ⟨vs, r2, l2, a2⟩ := resVs_sound hT hs h2
        refine ⟨v :: vs, ?_, by simp [l2], fun i z u e1 e2 => ?_⟩
        · rw [List.mapM_cons]
          simp only [Sem.run_bind, r1, r2, Result.andThen_ok, Sem.run_pure]
        · match i with
          | 0 =>
            simp at e1 e2
            subst e1; subst e2
            exact a1
          | i + 1 => exact a2 i z u e1 e2
theorem results_run {P : Program} {fn : Func} {tmps : Array Value} {w : World} {vs : List Value} (h : (fn.results.toList.mapM fun x => resRun x tmps).run P w = .ok vs w) :
    (results fn tmps).run P w = .ok (if h : vs.toArray.size = 1 then vs.toArray[0] else .tuple vs.toArray) w := by
  have hm : (fn.results.mapM fun x => resRun x tmps).run P w = .ok vs.toArray w := by
    have : (fn.results.mapM fun x => resRun x tmps) = (fn.results.toList.toArray.mapM fun x => resRun x tmps) := by simp
    rw [this, List.mapM_toArray]
    simp only [Sem.run_map, h, Result.andThen_ok]
  have : results fn tmps = (fn.results.mapM fun x => resRun x tmps) >>= fun vs => pure (if h : vs.size = 1 then vs[0] else .tuple vs) := by
    unfold results
    congr 1
  rw [this]
  simp only [Sem.run_bind, hm, Result.andThen_ok, Sem.run_pure]

def argsT : Nat → List AV → List (Nat × AV)
  | _, [] => []
  | k, x :: l => (k, x) :: argsT (k + 1) l
theorem argsT_look : ∀ (l : List AV) (k t : Nat), look (argsT k l) t = if k ≤ t then (l[t - k]?).getD .any else .any
  | [], k, t => by simp [argsT, look]
  | x :: l, k, t => by
    simp only [argsT, look, argsT_look l (k + 1) t]
    by_cases h1 : k = t
    · subst h1; simp
    · rw [if_neg h1]
      by_cases h2 : k ≤ t
      · rw [if_pos (by omega), if_pos h2, show t - k = (t - (k + 1)) + 1 by omega]
        simp
      · rw [if_neg (by omega), if_neg h2]
/-- The marks are taken. -/
structure Taken (ms : List Nat) (w w' : World) : Prop where
  os : w'.os = w.os
  tape : w'.tape = w.tape
  output : w'.output = w.output
  size : w'.heap.size = w.heap.size
  other : ∀ k, k ∉ ms → w'.heap[k]? = w.heap[k]?
  now : ∀ k, k ∈ ms → w'.heap[k]? = some (.deferred none)
theorem leaves_marks {P : Program} {fn : Func} {tmps : Array Value} {R : Ending → World → Prop} : ∀ (ms : List Nat) (w : World), ms.Nodup → (∀ D ∈ ms, w.heap[D]? = some (.deferred (some []))) →
    (∀ w', Taken ms w w' → LeavesIn Fence.wide 0 P fn tmps R [] .returning w') → LeavesInM Fence.wide 0 P fn tmps R (ms.map mark) .returning w
  | [], w, _, _, h => h w ⟨rfl, rfl, rfl, rfl, fun _ _ => rfl, by simp⟩
  | D :: ms, w, hn, hd, h => by
    rw [List.nodup_cons] at hn
    have hD := hd D (by simp)
    have hlt : D < w.heap.size := (Array.getElem?_eq_some_iff.1 hD).1
    refine ⟨by simp, .inl ⟨D, _, rfl, run_takeDeferred hD, ?_⟩⟩
    refine leaves_marks ms _ hn.2 (fun D' hD' => ?_) fun w' ht => h w' ?_
    · have hne : D' ≠ D := fun e => hn.1 (by rw [← e]; exact hD')
      rw [World.putObj_heap_other hne]
      exact hd D' (by simp [hD'])
    · refine ⟨ht.os, ht.tape, ht.output, ht.size.trans (by simp), fun k hk => ?_, fun k hk => ?_⟩
      · rw [ht.other k (fun e => hk (by simp [e])), World.putObj_heap_other (fun e => hk (by simp [e]))]
      · by_cases hkm : k ∈ ms
        · exact ht.now k hkm
        · have : k = D := by rcases List.mem_cons.1 hk with h | h; exact h; exact absurd h hkm
          subst this
          rw [ht.other k hkm, World.putObj_heap_same hlt]
theorem Taken.cell {ms : List Nat} {w w' : World} (h : Taken ms w w') (hd : ∀ D ∈ ms, w.heap[D]? = some (.deferred (some []))) (a : Addr) : w'.cell? a = w.cell? a := by
  by_cases hm : a.block ∈ ms
  · unfold World.cell?
    rw [h.now _ hm, hd _ hm]
  · exact World.cell?_of_block (h.other _ hm)
theorem BoxR.notDef {base : Nat} {Z : Zone} {w : World} {β : Nat → Value} {cr fz : Nat → Prop} {b : Nat} {x : Bx} (h : BoxR base Z w β cr fz b x) {g : Nat} (hg : blk (β b) = some g) (d : Option (List Deferred)) : w.heap[g]? ≠ some (.deferred d) := by
  cases h with
  | cells cs g' arr t hv hg' hh hl hc hz =>
    rw [hv] at hg
    simp only [blk, Option.some.injEq] at hg
    subst hg
    rw [hh]; simp
  | rows e sz rs inner ho hr hc ht hz =>
    rcases ho.2 with ⟨hv, _⟩ | ⟨g', cap, cur, hv, hb, hh, _⟩
    · rw [hv] at hg
      simp [blk] at hg
    · rw [hv] at hg
      simp only [blk, Option.some.injEq] at hg
      subst hg
      rw [hh]; simp
  | lp nt tm ps assign body st pend g' rec hv hg' hh =>
    rw [hv] at hg
    simp only [blk, Option.some.injEq] at hg
    subst hg
    rw [hh]; simp
  | mp ks g' es clock hv hg' hh =>
    rw [hv] at hg
    simp only [blk, Option.some.injEq] at hg
    subst hg
    rw [hh]; simp
theorem Sim.taken {E : En} {S : St} {Z : Zone} {β : Nat → Value} {a : Act} {w w' : World} {ms : List Nat} (hs : Sim E S Z β a w) (hb : E.w0.heap.size ≤ E.base) (ht : Taken ms w w') (hd : ∀ D ∈ ms, E.base ≤ D ∧ w.heap[D]? = some (.deferred (some []))) :
    Sim E S Z β { a with defers := [] } w' ∧ Ext Z Z w w' := by
  have he : Ext Z Z w w' := ⟨fun _ h => h, fun a _ => ht.cell (fun D h => (hd D h).2) a⟩
  refine ⟨⟨⟨⟨hs.wr.below.trans ⟨ht.os, ht.tape, ht.output, Nat.le_of_eq ht.size.symm, fun k hk => ht.other k fun hm => ?_⟩, by rw [ht.size]; exact hs.wr.hbase, fun a ha => by rw [ht.size]; exact hs.wr.zin a ha, hs.wr.zsp, fun b hl => ?_, hs.wr.dis, hs.wr.sub, ?_⟩, hs.z0, hs.zn, hs.tsz, fun t => (hs.tr t).ext he fun b h => ⟨h, rfl⟩, .none (by rw [ht.size]; exact hs.df.1)⟩, hs.fl, hs.dl⟩, he⟩
  · have := (hd k hm).1; omega
  · obtain ⟨x, hx, hB⟩ := hs.wr.box b hl
    exact ⟨x, hx, hB.ext he (fun b h => ⟨h, rfl⟩) (hs.wr.sub b hl) (fun g hg => ht.other g fun hm => hB.notDef hg _ (hd g hm).2) (fun g hg a ha e => .inl ha) id⟩
  · refine ⟨by rw [ht.size]; exact hs.wr.oth.size, fun k o hk ho => ?_⟩
    rw [ht.other k fun hm => ?_]
    · exact hs.wr.oth.same k o hk ho
    · have h1 := (hd k hm).1
      have h2 := (Array.getElem?_eq_some_iff.1 hk).1
      omega
/-- **THE CONTRACT OF A FUNCTION, OUT OF ITS CODE.** -/
theorem Ok.of_body {P : Program} {tt : TT} (hT : TOk P tt) {f : FuncId} {fn : Func} {c : Code} {args : List AV} {r : Ret} (hf : P.funcs[f]? = some fn) (hb : fn.body = some c) (hname : (fn.name == "runtime.NumGoroutine") = false)
    (hnt : args.length ≤ fn.ntmps) (h : ∀ E : En, E.P = P → E.tt = tt → E.n0 = 0 → E.rd = none → E.w0.heap.size ≤ E.base → E.base ≤ E.mb → AWP E c ⟨fn.ntmps, argsT 0 args, [], [], []⟩ (fun e S => (e = .normal ∨ e = .ret) ∧ RetK tt S fn.results.toList r)) : Ok P f args r := by
  refine ⟨fun vs w => ?_, fun Z w vs hz1 hz2 hsz hA => ?_⟩
  · simp only [callFunc, Sem.run_bind, run_program, Result.andThen_ok, hf, hname, hb, Option.isNone_some, Bool.false_eq_true, if_false, Sem.run_pure]
  · refine (callsIn_wide (n := 0)).1 (callsIn_of_wp_marks hf hb trivial ?_)
    let E : En := { P, tt, base := w.heap.size, w0 := w, Z0 := Z, n0 := 0, rd := none, mb := w.heap.size }
    have hs : Sim E ⟨fn.ntmps, argsT 0 args, [], [], []⟩ Z (fun _ => undef) { tmps := vs ++ Array.replicate (fn.ntmps - vs.size) undef, defers := [] } w := by
      refine ⟨⟨⟨.refl _ _, Nat.le_refl _, hz1, hz2, fun b hb => by simp at hb, fun b b' g hb => by simp at hb, fun b hb => hb.1, .refl _⟩, fun a h => h, fun a h1 h2 => absurd h1 h2, by simp only [Array.size_append, Array.size_replicate]; omega, fun t => ?_, .none (Nat.le_refl _)⟩, by simp, by simp⟩
      rw [argsT_look, if_pos (Nat.zero_le _), Nat.sub_zero]
      cases hx : args[t]? with
      | none => exact .any _
      | some x =>
        have hlt : t < args.length := (List.getElem?_eq_some_iff.1 hx).1
        have hv : vs[t]? = some (vs[t]'(by omega)) := Array.getElem?_eq_getElem (by omega)
        have hg : (vs ++ Array.replicate (fn.ntmps - vs.size) undef).getD t undef = vs[t]'(by omega) := by
          rw [Array.getD_eq_getD_getElem?, Array.getElem?_append_left (by omega), hv]
          rfl
        rw [hg]
        exact (hA t x _ hx hv).ext (Ext.refl _ _) (fun b h => h.elim)
    have hwp := h E rfl rfl rfl rfl (Nat.le_refl _) (Nat.le_refl _) Z _ _ w hs
    refine wpIn_mono hwp fun e a' w1 ⟨S', Z', β', h0, h20, h3, h4⟩ => ?_
    obtain ⟨he, hR⟩ := h4
    suffices hL : LeavesInM Fence.wide 0 P fn a'.tmps (fun e w' => ∃ v Z', e = .returned v ∧ Ext Z Z' w w' ∧ Below w.heap.size w w' ∧ (∀ a, Z' a → a.block < w'.heap.size) ∧ (∀ a, Z' a → a.spot = none) ∧ (∀ a, Z' a → ¬ Z a → w.heap.size ≤ a.block) ∧ RetR w.heap.size Z' w' r v) a'.defers .returning w1 by
      rcases he with rfl | rfl
      · exact hL
      · exact hL
    obtain ⟨_, ms, hm1, hm2, hm3⟩ := h0.df
    rw [hm1]
    refine leaves_marks ms w1 hm2 (fun D h => (hm3 D h).2) fun w' htk => ?_
    obtain ⟨h1, hext⟩ := h0.taken (Nat.le_refl _) htk hm3
    have h2 : Ext Z Z' w w' := h20.ext.trans hext
    -- what is laid aside in the end
    have fin : ∀ (frz : List Nat) (v : Value) (rr : Ret), (∀ b ∈ frz, b < S'.bx.length ∧ b ∉ S'.dead) → RetR w.heap.size (ZF Z' β' (nthB S'.bx) frz) w' rr v → rr = r →
        ∃ v' Z'', Ending.returned v = .returned v' ∧ Ext Z Z'' w w' ∧ Below w.heap.size w w' ∧ (∀ a, Z'' a → a.block < w'.heap.size) ∧ (∀ a, Z'' a → a.spot = none) ∧ (∀ a, Z'' a → ¬ Z a → w.heap.size ≤ a.block) ∧ RetR w.heap.size Z'' w' r v' := fun frz v rr hfr hret hrr => by
      subst hrr
      have hWf := h1.wr.freeze frz hfr
      refine ⟨v, _, rfl, h2.trans (ZF.ext _ _ _ _ _), h1.wr.below, hWf.zin, hWf.zsp, fun a ha hn => ?_, hret⟩
      by_cases hza : Z' a
      · exact h1.zn a hza hn
      · exact ZF_base h1.wr frz hfr a ha hza
    have post : ∀ (v : Value), (results fn a'.tmps).run P w' = .ok v w' → (∃ v' Z'', Ending.returned v = .returned v' ∧ Ext Z Z'' w w' ∧ Below w.heap.size w w' ∧ (∀ a, Z'' a → a.block < w'.heap.size) ∧ (∀ a, Z'' a → a.spot = none) ∧ (∀ a, Z'' a → ¬ Z a → w.heap.size ≤ a.block) ∧ RetR w.heap.size Z'' w' r v') →
        LeavesIn Fence.wide 0 P fn a'.tmps (fun e w' => ∃ v Z', e = .returned v ∧ Ext Z Z' w w' ∧ Below w.heap.size w w' ∧ (∀ a, Z' a → a.block < w'.heap.size) ∧ (∀ a, Z' a → a.spot = none) ∧ (∀ a, Z' a → ¬ Z a → w.heap.size ≤ a.block) ∧ RetR w.heap.size Z' w' r v) [] .returning w' := fun v hv hp => ⟨v, hv, hp⟩
    unfold RetK at hR
    split at hR
    · rename_i x hx
      obtain ⟨y, hy, hR⟩ := hR
      obtain ⟨v, r1, a1⟩ := resV_sound (E := E) hT h1 hy
      have r1 : (resRun x a'.tmps).run P w' = .ok v w' := r1
      have hres : (results fn a'.tmps).run P w' = .ok v w' := by
        have := results_run (P := P) (fn := fn) (tmps := a'.tmps) (w := w') (vs := [v]) (by
          rw [hx, List.mapM_cons, List.mapM_nil]
          simp only [Sem.run_bind, r1, Result.andThen_ok, Sem.run_pure])
        simpa using this
      refine post v hres ?_
      cases r with
      | v z =>
        obtain ⟨hd, rfl⟩ := hR
        have hfr : ∀ b ∈ frzOf y, b < S'.bx.length ∧ b ∉ S'.dead := fun b hb => by
          refine ⟨?_, hd b hb⟩
          cases y <;> simp [frzOf] at hb
          subst hb
          cases a1
          assumption
        exact fin (frzOf y) v (.v _) hfr (thaw_AR h1.wr a1 hfr (fun b h => h)) rfl
      | own e sz rs =>
        simp only at hR
        split at hR
        · rename_i b
          obtain ⟨hd, hf, hbx⟩ := hR
          have hcb : b < S'.bx.length := by cases a1; assumption
          have hvb : v = β' b := by cases a1; rfl
          obtain ⟨xx, hxx, hB⟩ := h1.wr.box b ⟨hcb, hd⟩
          rw [hbx] at hxx
          injection hxx with hxx
          subst hxx
          cases hB with
          | rows e sz rs inner ho hr hc ht hz =>
            refine fin [] v (.own e sz rs) (by simp) ?_ rfl
            rw [hvb]
            refine ⟨inner, ho, hr, fun j row i c u e1 e2 e3 => (hc j row i c u e1 e2 e3).ext (ZF.ext _ _ _ _ _), fun g hg a ha => ?_⟩
            rcases ha with ha | ⟨_, b', hb', _⟩
            · exact hz hf g hg a ha
            · simp at hb'
        · subst hR
          have hv0 : v = .slice none 0 0 := by cases a1; rfl
          subst hv0
          exact fin [] _ (.own e sz []) (by simp) ⟨[], World.ownsRow_nil _ _ _ _, by simp, by simp, fun g hg => by simp [Value.ownBlock] at hg⟩ rfl
        · exact hR.elim
      | mix pre e sz rs post => exact hR.elim
    · rename_i l hl
      obtain ⟨ys, hys, hR⟩ := hR
      obtain ⟨vs', r1, l1, a1⟩ := resVs_sound (E := E) hT h1 hys
      have hne : vs'.length ≠ 1 := by
        rw [l1]
        have hlen : ∀ (l : List ResultVar) (ys : List AV), resVs tt S' l = some ys → ys.length = l.length := fun l => by
          induction l with
          | nil => intro ys h; simp only [resVs, Option.some.injEq] at h; subst h; rfl
          | cons x l ih =>
            intro ys h
            simp only [resVs] at h
            split at h
            · rename_i y ys' e1 e2
              simp only [Option.some.injEq] at h
              subst h
              simp [ih _ e2]
            · simp at h
        rw [hlen _ _ hys]
        intro h1'
        obtain ⟨x, hx⟩ := List.length_eq_one_iff.1 h1'
        exact hl x hx
      have hres : (results fn a'.tmps).run P w' = .ok (.tuple vs'.toArray) w' := by
        have := results_run (P := P) (fn := fn) (tmps := a'.tmps) (w := w') r1
        rw [this]
        rw [dif_neg (by simpa using hne)]
      refine post _ hres ?_
      have hcrw : ∀ y ∈ ys, ∀ b ∈ frzOf y, b < S'.bx.length := fun y hy b hb => by
        obtain ⟨i, hi⟩ := List.mem_iff_getElem?.1 hy
        have hil : i < vs'.length := by rw [l1]; exact (List.getElem?_eq_some_iff.1 hi).1
        have := a1 i y _ hi (List.getElem?_eq_getElem hil)
        cases y <;> simp [frzOf] at hb
        subst hb
        exact this.own_cr
      rcases hR with ⟨hd, rfl⟩ | ⟨ypre, y0, ypost, e, sz, rs, rfl, hfz, hy0, rfl⟩
      · have hfr : ∀ b ∈ ys.flatMap frzOf, b < S'.bx.length ∧ b ∉ S'.dead := fun b hb => by
          refine ⟨?_, hd b hb⟩
          obtain ⟨y, hy, hb⟩ := List.mem_flatMap.1 hb
          obtain ⟨i, hi⟩ := List.mem_iff_getElem?.1 hy
          have hil : i < vs'.length := by rw [l1]; exact (List.getElem?_eq_some_iff.1 hi).1
          have := a1 i y _ hi (List.getElem?_eq_getElem hil)
          cases y <;> simp [frzOf] at hb
          subst hb
          exact this.own_cr
        refine fin (ys.flatMap frzOf) _ (.v _) hfr (.tup _ _ (by simp [l1]) fun i x v e1 e2 => ?_) rfl
        rw [List.getElem?_map] at e1
        cases hy : ys[i]? with
        | none => rw [hy] at e1; simp at e1
        | some y =>
          rw [hy] at e1
          simp only [Option.map_some, Option.some.injEq] at e1
          subst e1
          have hm := List.mem_of_getElem? hy
          exact thaw_AR h1.wr (a1 i y v hy (by simpa using e2)) (fun b hb => hfr b (List.mem_flatMap.2 ⟨y, hm, hb⟩)) (fun b hb => List.mem_flatMap.2 ⟨y, hm, hb⟩)
      · have hfr : ∀ b ∈ (ypre ++ ypost).flatMap frzOf, b < S'.bx.length ∧ b ∉ S'.dead := fun b hb => by
          obtain ⟨y, hy, hb'⟩ := List.mem_flatMap.1 hb
          exact ⟨hcrw y (by rcases List.mem_append.1 hy with h | h <;> simp [h]) b hb', (hfz b hb).1⟩
        have hvl : vs'.length = ypre.length + 1 + ypost.length := by rw [l1]; simp; omega
        refine fin ((ypre ++ ypost).flatMap frzOf) _ (.mix _ e sz rs _) hfr ⟨vs'.toArray, rfl, by simp [hvl], fun i x v e1 e2 => ?_, fun i x v e1 e2 => ?_, vs'[ypre.length]'(by omega), by simp [List.getElem?_eq_getElem (show ypre.length < vs'.length by omega)], ?_⟩ rfl
        · rw [List.getElem?_map] at e1
          cases hy : ypre[i]? with
          | none => rw [hy] at e1; simp at e1
          | some y =>
            rw [hy] at e1
            simp only [Option.map_some, Option.some.injEq] at e1
            subst e1
            have hm := List.mem_of_getElem? hy
            have hil := (List.getElem?_eq_some_iff.1 hy).1
            exact thaw_AR h1.wr (a1 i y v (by rw [List.getElem?_append_left hil]; exact hy) (by simpa using e2)) (fun b hb => hfr b (List.mem_flatMap.2 ⟨y, by simp [hm], hb⟩)) (fun b hb => List.mem_flatMap.2 ⟨y, by simp [hm], hb⟩)
        · rw [List.getElem?_map] at e1
          cases hy : ypost[i]? with
          | none => rw [hy] at e1; simp at e1
          | some y =>
            rw [hy] at e1
            simp only [Option.map_some, Option.some.injEq] at e1
            subst e1
            have hm := List.mem_of_getElem? hy
            simp only [List.length_map] at e2
            exact thaw_AR h1.wr (a1 (ypre.length + 1 + i) y v (by rw [List.getElem?_append_right (by omega), show ypre.length + 1 + i - ypre.length = i + 1 by omega, List.getElem?_cons_succ]; exact hy) (by simpa using e2)) (fun b hb => hfr b (List.mem_flatMap.2 ⟨y, by simp [hm], hb⟩)) (fun b hb => List.mem_flatMap.2 ⟨y, by simp [hm], hb⟩)
        · have ha0 := a1 ypre.length y0 _ (by simp) (List.getElem?_eq_getElem (by omega))
          generalize vs'[ypre.length]'(by omega) = v at ha0
          rcases hy0 with ⟨b, rfl, hdb, hf, hbx⟩ | ⟨rfl, rfl⟩
          · have hcb : b < S'.bx.length := ha0.own_cr
            have hvb : v = β' b := by cases ha0; rfl
            obtain ⟨xx, hxx, hB⟩ := h1.wr.box b ⟨hcb, hdb⟩
            rw [hbx] at hxx
            injection hxx with hxx
            subst hxx
            cases hB with
            | rows e sz rs inner ho hr hc ht hz =>
              rw [hvb]
              refine ⟨inner, ho, hr, fun j row i c u e1 e2 e3 => (hc j row i c u e1 e2 e3).ext (ZF.ext _ _ _ _ _), fun g hg a ha => ?_⟩
              rcases ha with ha | ⟨_, b', hb', hz'⟩
              · exact hz hf g hg a ha
              · intro he
                have hne : b' ≠ b := fun e => (hfz b' hb').2 (by rw [e])
                have hbg : blk (β' b) = some g := blk_ownBlock _ _ hg
                exact h1.wr.dis b' b g (hfr b' hb') ⟨hcb, hdb⟩ hne (by rw [hz'.1, he]) hbg
          · have hv0 : v = .slice none 0 0 := by cases ha0; rfl
            subst hv0
            exact ⟨[], World.ownsRow_nil _ _ _ _, by simp, by simp, fun g hg => by simp [Value.ownBlock] at hg⟩
end Go.Vam

/- An abstract machine over data (part 11): regions that draw their order: their text's order is enough. -/
namespace Go.Vam
open Go.RowKit
set_option linter.unusedVariables false
set_option linter.unusedSimpArgs false

/-! ### 1. The text's order, with what was done told -/
inductive TrK where
  | skip
  | op (nb : Nat) (us ks fs : List Nat) (nw : Bool)
  | st
  | sx (b : Nat) (x : Bx)
/-- The stores of a region, laid upon the state at its end. -/
def fin : List TrK → St → St
  | [], S => S
  | .sx b x :: l, S => fin l (S.setB none b x)
  | .skip :: l, S => fin l S
  | .op _ _ _ _ _ :: l, S => fin l S
  | .st :: l, S => fin l S
def usesAll (o : Oper) (S : St) : List Nat :=
  match needU o.op with
  | true => o.op.operands.toList.flatMap fun x => usesOf (evT S.tm x)
  | false => []
def guardM (m : Nat) (ds : List (Option Nat)) (tm : List (Nat × AV)) (g : Option (Nat × Bool)) (r : Bool) : Prop :=
  match m with | 0 => guardV ds tm g r | 2 => r = false | _ => r = true
def plainV : AV → Option (List AV)
  | .c c => some [.c c]
  | .agg r => some (r.map .c)
  | _ => none
def isIdx : Op → Bool
  | .indexAddr _ _ _ => true
  | _ => false
def isRowsB : Bx → Bool
  | .rows _ _ _ => true
  | _ => false
/-- The lists of one's own that a box's cells name. -/
def ownsOf : Bx → List Nat
  | .cells cs => cs.filterMap fun x => match x with
    | .own b => some b
    | _ => none
  | _ => []
/-- The same shape: a list of one's own of the same length. -/
def sameSh (x y : Bx) : Prop := x = y ∨ ∃ e sz rs rs', x = .rows e sz rs ∧ y = .rows e sz rs' ∧ rs.length = rs'.length
theorem sameSh.trans {x y z : Bx} (h : sameSh x y) (k : sameSh y z) : sameSh x z := by
  rcases h with rfl | ⟨e, sz, rs, rs', rfl, rfl, h⟩
  · exact k
  · rcases k with rfl | ⟨e', sz', rs1, rs2, h1, rfl, h2⟩
    · exact .inr ⟨e, sz, rs, rs', rfl, rfl, h⟩
    · cases h1
      exact .inr ⟨e, sz, rs, rs2, rfl, rfl, h.trans h2⟩
/-- A store that others may follow: the box and what it holds then. S1 has the stores so far. -/
def StX (E : En) (o : Oper) (S S1 : St) (b : Nat) (x : Bx) : Prop :=
  o.dst = none ∧ b ∉ S.dead ∧ b ∉ S.fz ∧ ∃ t xo yo i z, o.op = .store t xo yo ∧ E.tt t = some i ∧ nthB S1.bx b = some z ∧
    ((∃ off cs m, evT S.tm xo = .ptr b off ∧ z = .cells cs ∧ plainV (evT S.tm yo) = some m ∧ m.length = i.n ∧ off + i.n ≤ cs.length ∧ x = .cells (cs.take off ++ m ++ cs.drop (off + m.length))) ∨
     (∃ off e sz j rs row m, evT S.tm xo = .optr b off ∧ z = .rows e sz rs ∧ rowOf (evT S.tm yo) = some m ∧ rs[j]? = some row ∧ m.length = i.n ∧ j * sz ≤ off ∧ off - j * sz + i.n ≤ row.length ∧
      x = .rows e sz (rs.set j (row.take (off - j * sz) ++ m ++ row.drop (off - j * sz + m.length)))) ∨
     (∃ off cs b' e sz rs, evT S.tm xo = .ptr b off ∧ z = .cells cs ∧ evT S.tm yo = .own b' ∧ b' ∉ S.dead ∧ nthB S.bx b' = some (.rows e sz rs) ∧ i.n = 1 ∧ off + i.n ≤ cs.length ∧ x = .cells (cs.take off ++ [.own b'] ++ cs.drop (off + 1))))
theorem StX.shape {E : En} {o : Oper} {S S1 : St} {b : Nat} {x : Bx} (h : StX E o S S1 b x) (hr : isRowsB x = true) : ∃ z, nthB S1.bx b = some z ∧ sameSh z x := by
  obtain ⟨_, _, _, t, xo, yo, i, z, _, _, hz, h | h | h⟩ := h
  · obtain ⟨off, cs, m, _, _, _, _, _, rfl⟩ := h
    simp [isRowsB] at hr
  · obtain ⟨off, e, sz, j, rs, row, m, _, rfl, _, _, _, _, _, rfl⟩ := h
    exact ⟨_, hz, .inr ⟨e, sz, rs, _, rfl, rfl, by simp⟩⟩
  · obtain ⟨off, cs, b', e, sz, rs, _, _, _, _, _, _, _, rfl⟩ := h
    simp [isRowsB] at hr
def Trace (E : En) (ds : List (Option Nat)) (D : List TrK → Prop) (K : St → Prop) : Nat → List Oper → St → List TrK → Prop
  | _, [], S, acc => D acc ∧ K (fin acc S)
  | m, o :: l, S, acc => ∃ r, guardM m ds S.tm o.guard r ∧
      (r = true → (∃ e, LoclS E o S e ∧ dstOk S.nt o.dst = true ∧ Trace E ds D K 0 l (S.app o.dst e) (acc ++ [.op S.bx.length (usesAll o S) e.kill e.frz e.nw.isSome])) ∨ (l = [] ∧ D (acc ++ [.st]) ∧ OpK E o (fin acc S) K) ∨
        (∃ b x, StX E o S (fin acc S) b x ∧ Trace E ds D K 0 l S (acc ++ [.sx b x]))) ∧
      (r = false → dstOk S.nt o.dst = true ∧ Trace E ds D K 0 l (S.skip o.dst) (acc ++ [.skip]))

def stepS (o : Oper) (x : Option Eff) (S : St) : St :=
  match x with
  | some e => S.app o.dst e
  | none => S.skip o.dst
def entS (o : Oper) (x : Option Eff) (S : St) : TrK :=
  match x with
  | some e => .op S.bx.length (usesAll o S) e.kill e.frz e.nw.isSome
  | none => .skip
/-- The states, in the text's order. -/
def fS (S : St) (l : List Oper) (es : List (Option Eff)) : Nat → St
  | 0 => S
  | i + 1 => match l[i]?, es[i]? with
    | some o, some x => stepS o x (fS S l es i)
    | _, _ => fS S l es i
theorem fS_cons (S : St) (o : Oper) (x : Option Eff) (l : List Oper) (es : List (Option Eff)) (i : Nat) : fS S (o :: l) (x :: es) (i + 1) = fS (stepS o x S) l es i := by
  induction i with
  | zero => rfl
  | succ i ih =>
    rw [fS]
    simp only [List.getElem?_cons_succ]
    rw [ih]
    rfl
def FactS (E : En) (ds : List (Option Nat)) (S : St) (o : Oper) (x : Option Eff) : Prop := guardV ds S.tm o.guard x.isSome ∧ dstOk S.nt o.dst = true ∧ ∀ e, x = some e → LoclS E o S e
def e0 : Eff := { res := .und }
/-- What the trace tells of one operation. -/
def FactX (E : En) (ds : List (Option Nat)) (S S1 : St) (o : Oper) (x : Option Eff) (t : TrK) : Prop :=
  (t = entS o x S ∧ FactS E ds S o x) ∨ (∃ b y, t = .sx b y ∧ x = some e0 ∧ guardV ds S.tm o.guard true ∧ StX E o S S1 b y)
theorem stepS_e0 {o : Oper} (S : St) (h : o.dst = none) : stepS o (some e0) S = S := by
  unfold stepS St.app e0
  rw [h]
  rfl
theorem Trace.det {E : En} {ds : List (Option Nat)} {D : List TrK → Prop} {K : St → Prop} : ∀ (l : List Oper) (S : St) (acc : List TrK), Trace E ds D K 0 l S acc → ∃ (es : List (Option Eff)) (tr : List TrK), tr.length = es.length ∧ es.length ≤ l.length ∧
    (∀ i o x t, l[i]? = some o → es[i]? = some x → tr[i]? = some t → FactX E ds (fS S l es i) (fin (acc ++ tr.take i) (fS S l es i)) o x t) ∧
    ((es.length = l.length ∧ D (acc ++ tr) ∧ K (fin (acc ++ tr) (fS S l es es.length))) ∨ (∃ o, es.length + 1 = l.length ∧ l[es.length]? = some o ∧ guardV ds (fS S l es es.length).tm o.guard true ∧ D (acc ++ tr ++ [.st]) ∧ OpK E o (fin (acc ++ tr) (fS S l es es.length)) K))
  | [], S, acc, h => ⟨[], [], rfl, by simp, by simp, .inl ⟨rfl, by simpa [fS, Trace] using h⟩⟩
  | o :: l, S, acc, h => by
    obtain ⟨r, hg, h1, h2⟩ := h
    have go : ∀ (x : Option Eff) (t : TrK), FactX E ds S (fin acc S) o x t → Trace E ds D K 0 l (stepS o x S) (acc ++ [t]) → ∃ (es : List (Option Eff)) (tr : List TrK), tr.length = es.length ∧ es.length ≤ (o :: l).length ∧
        (∀ i o' x t, (o :: l)[i]? = some o' → es[i]? = some x → tr[i]? = some t → FactX E ds (fS S (o :: l) es i) (fin (acc ++ tr.take i) (fS S (o :: l) es i)) o' x t) ∧
        ((es.length = (o :: l).length ∧ D (acc ++ tr) ∧ K (fin (acc ++ tr) (fS S (o :: l) es es.length))) ∨ (∃ o', es.length + 1 = (o :: l).length ∧ (o :: l)[es.length]? = some o' ∧ guardV ds (fS S (o :: l) es es.length).tm o'.guard true ∧ D (acc ++ tr ++ [.st]) ∧ OpK E o' (fin (acc ++ tr) (fS S (o :: l) es es.length)) K)) := fun x t hf ht => by
      obtain ⟨es, tr, k0, k1, k2, k3⟩ := Trace.det l _ _ ht
      refine ⟨x :: es, t :: tr, by simpa using k0, by simpa using k1, fun i o' x' t' e1 e2 e3 => ?_, ?_⟩
      · cases i with
        | zero => simp at e1 e2 e3; subst e1; subst e2; subst e3; simpa [fS] using hf
        | succ i =>
          rw [fS_cons]
          have := k2 i o' x' t' (by simpa using e1) (by simpa using e2) (by simpa using e3)
          simpa using this
      · rcases k3 with ⟨e1, e0, e2⟩ | ⟨o', e1, e2, e3, e0, e4⟩
        · refine .inl ⟨by simp [e1], by simpa using e0, ?_⟩
          simp only [List.length_cons, fS_cons]; simpa using e2
        · refine .inr ⟨o', by simp [← e1], by simpa using e2, ?_, by simpa using e0, ?_⟩
          · simp only [List.length_cons, fS_cons]; exact e3
          · simp only [List.length_cons, fS_cons]; simpa using e4
    cases r with
    | true =>
      rcases h1 rfl with ⟨e, e1, e2, e3⟩ | ⟨rfl, e0, e1⟩ | ⟨b, y, e1, e2⟩
      · exact go (some e) _ (.inl ⟨rfl, hg, e2, fun e' he => by cases he; exact e1⟩) e3
      · exact ⟨[], [], rfl, by simp, by simp, .inr ⟨o, rfl, rfl, hg, by simpa using e0, by simpa [fS] using e1⟩⟩
      · exact go (some e0) (.sx b y) (.inr ⟨b, y, rfl, rfl, hg, e1⟩) (by rw [stepS_e0 S e1.1]; exact e2)
    | false =>
      obtain ⟨e1, e2⟩ := h2 rfl
      exact go none _ (.inl ⟨rfl, hg, e1, fun e' he => by cases he⟩) e2

/-! ### 2. What is asked of a region -/
def memN (b : Nat) : List Nat → Bool
  | [] => false
  | x :: l => if b = x then true else memN b l
theorem memN_iff (b : Nat) (l : List Nat) : memN b l = true ↔ b ∈ l := by
  induction l with
  | nil => simp [memN]
  | cons x l ih =>
    simp only [memN, List.mem_cons]
    split
    · rename_i h; simp [h]
    · rename_i h; simp [h, ih]
def addN (x : Nat) (l : List Nat) : List Nat := if memN x l then l else x :: l
theorem mem_addN {x y : Nat} {l : List Nat} : y ∈ addN x l ↔ y = x ∨ y ∈ l := by
  unfold addN
  split
  · rename_i h
    rw [memN_iff] at h
    constructor
    · exact .inr
    · rintro (rfl | h'); exact h; exact h'
  · simp
def unionN (a b : List Nat) : List Nat := a.foldr addN b
theorem mem_unionN {y : Nat} {a b : List Nat} : y ∈ unionN a b ↔ y ∈ a ∨ y ∈ b := by
  induction a with
  | nil => simp [unionN]
  | cons x a ih =>
    simp only [unionN, List.foldr_cons] at ih ⊢
    rw [mem_addN, ih]
    simp [or_assoc]
def ancE (acc : List (List Nat)) : List Edge → List Nat
  | [] => []
  | e :: l => if Region.binds .any e then unionN (e.on :: (acc[e.on]?).getD []) (ancE acc l) else ancE acc l
def ancL (acc : List (List Nat)) : List Oper → List (List Nat)
  | [] => acc
  | o :: l => ancL (acc ++ [ancE acc o.after.toList]) l
def Closed (ops : Array Oper) (L : Nat → Prop) : Prop := ∀ i o, L i → ops[i]? = some o → ∀ e ∈ o.after, Region.binds .any e = true → L e.on
theorem ancE_spec {acc : List (List Nat)} {L : Nat → Prop} (h : ∀ j x, L j → x ∈ (acc[j]?).getD [] → L x) : ∀ (l : List Edge), (∀ e ∈ l, Region.binds .any e = true → L e.on) → ∀ x ∈ ancE acc l, L x
  | [], _, x, hx => by simp [ancE] at hx
  | e :: l, he, x, hx => by
    simp only [ancE] at hx
    split at hx
    · rename_i hb
      rcases mem_unionN.1 hx with hx | hx
      · have hon := he e (by simp) hb
        rcases List.mem_cons.1 hx with rfl | hx
        · exact hon
        · exact h _ x hon hx
      · exact ancE_spec h l (fun e h1 => he e (by simp [h1])) x hx
    · exact ancE_spec h l (fun e h1 => he e (by simp [h1])) x hx
theorem ancL_spec {ops : Array Oper} {L : Nat → Prop} (hc : Closed ops L) : ∀ (l : List Oper) (acc : List (List Nat)), (∀ i, ops[acc.length + i]? = l[i]?) → (∀ j x, L j → x ∈ (acc[j]?).getD [] → L x) → ∀ j x, L j → x ∈ ((ancL acc l)[j]?).getD [] → L x
  | [], acc, _, h, j, x, hj, hx => h j x hj hx
  | o :: l, acc, hi, h, j, x, hj, hx => by
    refine ancL_spec hc l (acc ++ [ancE acc o.after.toList]) (fun i => ?_) (fun j x hj hx => ?_) j x hj hx
    · have := hi (i + 1)
      simp only [List.getElem?_cons_succ] at this
      rw [← this]
      congr 1
      simp; omega
    · by_cases h1 : j < acc.length
      · rw [List.getElem?_append_left h1] at hx
        exact h j x hj hx
      · rw [List.getElem?_append_right (by omega)] at hx
        by_cases h2 : j = acc.length
        · subst h2
          simp only [Nat.sub_self, List.getElem?_cons_zero, Option.getD_some] at hx
          have ho := hi 0
          simp only [Nat.add_zero, List.getElem?_cons_zero] at ho
          exact ancE_spec h o.after.toList (fun e he hb => hc _ o hj ho e (by simpa using he) hb) x hx
        · rw [List.getElem?_eq_none (by simp; omega)] at hx
          simp at hx
def opTmp : Operand → Option Nat
  | .tmp t => some t
  | _ => none
/-- The temporaries that an operation looks at. -/
def looksN (ds : List (Option Nat)) (o : Oper) : List Nat :=
  (o.op.operands.toList.filterMap opTmp) ++ (match o.guard with | some (j, _) => (nthD ds j).toList | none => [])
def disjN (a b : List Nat) : Bool := a.all fun x => !memN x b
def pairOk (an : List (List Nat)) (ds : List (Option Nat)) (i : Nat) (oi : Oper) (ti : TrK) (j : Nat) (oj : Oper) (tj : TrK) : Bool :=
  (match oj.dst with
    | some t => (oi.dst != some t || i == j) && (!memN t (looksN ds oi) || (if j < i then memN j ((an[i]?).getD []) else if i < j then memN i ((an[j]?).getD []) else true))
    | none => true) &&
  (match ti, tj with
    | .op _ us _ _ _, .op _ _ ks fs _ => decide (j ≤ i) || memN i ((an[j]?).getD []) || (disjN us ks && (!needF oi.op || disjN us fs))
    | .op nb us ks fs nw, .sx b y => (!nw || decide (b ≠ nb) || memN i ((an[j]?).getD [])) && ((!memN b us || memN i ((an[j]?).getD []) || (isIdx oi.op && isRowsB y)) && ((!memN b ks && !memN b fs) && disjN (ownsOf y) ks))
    | .sx b _, .sx _ y => (decide (j ≤ i) || memN i ((an[j]?).getD [])) && !memN b (ownsOf y)
    | _, _ => true)
def entOk (n : Nat) (an : List (List Nat)) (i : Nat) : TrK → Bool
  | .st => i + 1 == n && (List.range i).all fun j => memN j ((an[i]?).getD [])
  | .op nb us _ _ _ => us.all fun b => decide (b < nb)
  | .skip => true
  | .sx _ _ => true
def drawOk (ops : Array Oper) (tr : List TrK) : Bool :=
  let l := ops.toList
  let an := ancL [] l
  let ds := l.map (·.dst)
  let z := l.zip tr
  l.length == tr.length && (List.range z.length).all fun i => match z[i]? with
    | some (oi, ti) =>
      (oi.after.toList.all fun e => !Region.binds .any e || decide (e.on < i)) &&
      entOk l.length an i ti &&
      (List.range z.length).all fun j => match z[j]? with
        | some (oj, tj) => pairOk an ds i oi ti j oj tj
        | none => true
    | none => true

structure Plan (E : En) (S : St) (ops : Array Oper) (es : List (Option Eff)) (tr : List TrK) : Prop where
  le : es.length ≤ ops.size
  trl : tr.length = es.length
  fact : ∀ i o x t, ops[i]? = some o → es[i]? = some x → tr[i]? = some t → FactX E (ops.toList.map (·.dst)) (fS S ops.toList es i) (fin (tr.take i) (fS S ops.toList es i)) o x t
  edge : ∀ (i : Nat) (o : Oper), ops[i]? = some o → ∀ e ∈ o.after, Region.binds .any e = true → e.on < i
  dist : ∀ (i j t : Nat) (oi oj : Oper), ops[i]? = some oi → ops[j]? = some oj → oi.dst = some t → oj.dst = some t → i = j
  tmp : ∀ (i j t : Nat) (oi oj : Oper), ops[i]? = some oi → ops[j]? = some oj → t ∈ looksN (ops.toList.map (·.dst)) oi → oj.dst = some t →
    (j < i → ∀ L, Closed ops L → L i → L j) ∧ (i < j → ∀ L, Closed ops L → L j → L i)
  use : ∀ (i j nb nb' : Nat) (oi : Oper) (us ks fs us' ks' fs' : List Nat) (nw nw' : Bool), ops[i]? = some oi → tr[i]? = some (.op nb us ks fs nw) → tr[j]? = some (.op nb' us' ks' fs' nw') → i < j → ∀ b ∈ us,
    (b ∈ ks' → ∀ L, Closed ops L → L j → L i) ∧ (needF oi.op = true → b ∈ fs' → ∀ L, Closed ops L → L j → L i)
  usn : ∀ (i nb : Nat) (us ks fs : List Nat) (nw : Bool), tr[i]? = some (.op nb us ks fs nw) → ∀ b ∈ us, b < nb
  last : ∀ k, k + 1 = ops.size → es.length = k → ∀ L, Closed ops L → (∀ j, j < k → (∀ L', Closed ops L' → L' k → L' j))
  sxo : ∀ (i s nb b : Nat) (us ks fs : List Nat) (nw : Bool) (y : Bx), tr[i]? = some (.op nb us ks fs nw) → tr[s]? = some (.sx b y) → (nw = true → b = nb → ∀ L, Closed ops L → L s → L i) ∧ (b ∈ us → (∀ L, Closed ops L → L s → L i) ∨ (isRowsB y = true ∧ ∃ oi, ops[i]? = some oi ∧ isIdx oi.op = true)) ∧ b ∉ ks ∧ b ∉ fs
  sxw : ∀ (i s nb b : Nat) (us ks fs : List Nat) (nw : Bool) (y : Bx), tr[i]? = some (.op nb us ks fs nw) → tr[s]? = some (.sx b y) → ∀ b' ∈ ownsOf y, b' ∉ ks
  sxv : ∀ (i j b b' : Nat) (y y' : Bx), tr[i]? = some (.sx b y) → tr[j]? = some (.sx b' y') → b ∉ ownsOf y'
  sxs : ∀ (i j b b' : Nat) (y y' : Bx), tr[i]? = some (.sx b y) → tr[j]? = some (.sx b' y') → i < j → ∀ L, Closed ops L → L j → L i

theorem disjN_spec {a b : List Nat} (h : disjN a b = true) : ∀ x ∈ a, x ∉ b := fun x hx hb => by
  unfold disjN at h
  rw [List.all_eq_true] at h
  have := h x hx
  rw [(memN_iff x b).2 hb] at this
  simp at this
theorem Plan.mk' {E : En} {S : St} {ops : Array Oper} {es : List (Option Eff)} {tr tail : List TrK} (hle : es.length ≤ ops.size) (htl : tr.length = es.length)
    (hf : ∀ i o x t, ops[i]? = some o → es[i]? = some x → tr[i]? = some t → FactX E (ops.toList.map (·.dst)) (fS S ops.toList es i) (fin (tr.take i) (fS S ops.toList es i)) o x t)
    (ht : tail = [] ∧ es.length = ops.size ∨ tail = [.st]) (h : drawOk ops (tr ++ tail) = true) : Plan E S ops es tr := by
  have hanc : ∀ (j x : Nat), x ∈ ((ancL [] ops.toList)[j]?).getD [] → ∀ L, Closed ops L → L j → L x := fun j x hx L hL hj =>
    ancL_spec hL ops.toList [] (fun i => by simp) (by simp) j x hj hx
  unfold drawOk at h
  simp only [Bool.and_eq_true, beq_iff_eq] at h
  obtain ⟨hlen, h⟩ := h
  rw [List.all_eq_true] at h
  have hzl : (ops.toList.zip (tr ++ tail)).length = ops.size := by
    rw [List.length_zip, ← hlen]; simp
  have hz : ∀ (i : Nat) (o : Oper), ops[i]? = some o → ∃ t, (tr ++ tail)[i]? = some t ∧ (ops.toList.zip (tr ++ tail))[i]? = some (o, t) := fun i o ho => by
    have hi : i < ops.size := (Array.getElem?_eq_some_iff.1 ho).1
    have hi2 : i < (tr ++ tail).length := by rw [← hlen]; simpa using hi
    refine ⟨_, List.getElem?_eq_getElem hi2, ?_⟩
    rw [List.getElem?_zip_eq_some]
    exact ⟨by simpa using ho, List.getElem?_eq_getElem hi2⟩
  have htr : ∀ (i : Nat) (t : TrK), tr[i]? = some t → (tr ++ tail)[i]? = some t ∧ i < ops.size := fun i t hi => by
    have h1 := (List.getElem?_eq_some_iff.1 hi).1
    exact ⟨by rw [List.getElem?_append_left h1]; exact hi, by omega⟩
  have main : ∀ (i : Nat) (o : Oper), ops[i]? = some o → ∃ t, (tr ++ tail)[i]? = some t ∧ (o.after.toList.all fun e => !Region.binds .any e || decide (e.on < i)) = true ∧
        entOk ops.toList.length (ancL [] ops.toList) i t = true ∧
        ∀ (j : Nat) (oj : Oper), ops[j]? = some oj → ∃ tj, (tr ++ tail)[j]? = some tj ∧ pairOk (ancL [] ops.toList) (ops.toList.map (·.dst)) i o t j oj tj = true := fun i o ho => by
    have hi : i < ops.size := (Array.getElem?_eq_some_iff.1 ho).1
    obtain ⟨t, h1, h2⟩ := hz i o ho
    have := h i (by rw [List.mem_range, hzl]; exact hi)
    rw [h2] at this
    simp only [Bool.and_eq_true] at this
    refine ⟨t, h1, this.1.1, this.1.2, fun j oj hoj => ?_⟩
    obtain ⟨tj, k1, k2⟩ := hz j oj hoj
    have hj : j < ops.size := (Array.getElem?_eq_some_iff.1 hoj).1
    have := (List.all_eq_true.1 this.2) j (by rw [List.mem_range, hzl]; exact hj)
    rw [k2] at this
    exact ⟨tj, k1, this⟩
  -- two entries
  have two : ∀ (i j : Nat) (ti tj : TrK), tr[i]? = some ti → tr[j]? = some tj → ∃ oi oj, ops[i]? = some oi ∧ ops[j]? = some oj ∧ pairOk (ancL [] ops.toList) (ops.toList.map (·.dst)) i oi ti j oj tj = true := fun i j ti tj hi hj => by
    obtain ⟨e1, l1⟩ := htr i ti hi
    obtain ⟨e2, l2⟩ := htr j tj hj
    obtain ⟨t, k1, _, _, h1⟩ := main i ops[i] (Array.getElem?_eq_getElem l1)
    obtain ⟨t', k2, h2⟩ := h1 j ops[j] (Array.getElem?_eq_getElem l2)
    rw [e1] at k1
    rw [e2] at k2
    injection k1 with k1
    injection k2 with k2
    subst k1; subst k2
    exact ⟨_, _, Array.getElem?_eq_getElem l1, Array.getElem?_eq_getElem l2, h2⟩
  refine ⟨hle, htl, hf, fun i o ho e he hb => ?_, fun i j t oi oj hoi hoj hi hj => ?_, fun i j t oi oj hoi hoj hl hj => ?_, fun i j nb nb' oi us ks fs us' ks' fs' nw nw' hoi hi hj hlt b hb => ?_, fun i nb us ks fs nw hi b hb => ?_, fun k hk hes L hL j hj L' hL' hk' => ?_,
    fun i s nb b us ks fs nw y hi hs => ?_, fun i s nb b us ks fs nw y hi hs b' hb' => ?_, fun i j b b' y y' hi hj => ?_, fun i j b b' y y' hi hj hlt L hL hLj => ?_⟩
  · obtain ⟨t, _, h1, _⟩ := main i o ho
    have := (List.all_eq_true.1 h1) e (by simpa using he)
    rw [hb] at this
    simpa using this
  · obtain ⟨ti, _, _, _, h1⟩ := main i oi hoi
    obtain ⟨tj, _, h2⟩ := h1 j oj hoj
    unfold pairOk at h2
    rw [hj] at h2
    simp only [Bool.and_eq_true] at h2
    have := h2.1.1
    rw [hi] at this
    simpa using this
  · obtain ⟨ti, _, _, _, h1⟩ := main i oi hoi
    obtain ⟨tj, _, h2⟩ := h1 j oj hoj
    unfold pairOk at h2
    rw [hj] at h2
    simp only [Bool.and_eq_true] at h2
    have := h2.1.2
    rw [(memN_iff _ _).2 hl] at this
    simp only [Bool.not_true, Bool.false_or] at this
    refine ⟨fun hlt L hL hLi => ?_, fun hlt L hL hLj => ?_⟩
    · rw [if_pos hlt, memN_iff] at this
      exact hanc _ _ this L hL hLi
    · rw [if_neg (by omega), if_pos hlt, memN_iff] at this
      exact hanc _ _ this L hL hLj
  · obtain ⟨oi', oj, hoi', hoj, h2⟩ := two i j _ _ hi hj
    rw [hoi] at hoi'
    injection hoi' with hoi'
    subst hoi'
    unfold pairOk at h2
    simp only [Bool.and_eq_true, Bool.or_eq_true, decide_eq_true_eq] at h2
    rcases h2.2 with (h3 | h3) | h3
    · omega
    · rw [memN_iff] at h3
      exact ⟨fun _ L hL hLj => hanc _ _ h3 L hL hLj, fun _ _ L hL hLj => hanc _ _ h3 L hL hLj⟩
    · refine ⟨fun hk => absurd hk (disjN_spec h3.1 b hb), fun hn hk => ?_⟩
      rcases h3.2 with h4 | h4
      · rw [hn] at h4; simp at h4
      · exact absurd hk (disjN_spec h4 b hb)
  · obtain ⟨e1, l1⟩ := htr i _ hi
    obtain ⟨ti, k1, _, h1, _⟩ := main i ops[i] (Array.getElem?_eq_getElem l1)
    rw [e1] at k1
    injection k1 with k1
    subst k1
    simp only [entOk] at h1
    have := (List.all_eq_true.1 h1) b hb
    simpa using this
  · have hki : k < ops.size := by omega
    obtain ⟨ti, e1, _, h1, _⟩ := main k ops[k] (Array.getElem?_eq_getElem hki)
    have ht2 : tail = [.st] := by
      rcases ht with ht | ht
      · omega
      · exact ht
    subst ht2
    rw [List.getElem?_append_right (by omega), htl, hes, Nat.sub_self] at e1
    simp only [List.getElem?_cons_zero, Option.some.injEq] at e1
    subst e1
    simp only [entOk, Bool.and_eq_true] at h1
    have := (List.all_eq_true.1 h1.2) j (by rw [List.mem_range]; exact hj)
    rw [memN_iff] at this
    exact hanc _ _ this L' hL' hk'
  · obtain ⟨oi, os, hoi, hos, h2⟩ := two i s _ _ hi hs
    unfold pairOk at h2
    simp only [Bool.and_eq_true, Bool.or_eq_true, decide_eq_true_eq, Bool.not_eq_true'] at h2
    obtain ⟨h3, h4, ⟨h5, h6⟩, _⟩ := h2.2
    refine ⟨fun hn hb L hL hLs => ?_, fun hb => ?_, fun hb => ?_, fun hb => ?_⟩
    · rcases h3 with (h3 | h3) | h3
      · rw [hn] at h3; simp at h3
      · exact absurd hb h3
      · rw [memN_iff] at h3
        exact hanc _ _ h3 L hL hLs
    · rcases h4 with (h4 | h4) | h4
      · rw [(memN_iff _ _).2 hb] at h4; simp at h4
      · rw [memN_iff] at h4
        exact .inl fun L hL hLs => hanc _ _ h4 L hL hLs
      · exact .inr ⟨h4.2, oi, hoi, h4.1⟩
    · rw [(memN_iff _ _).2 hb] at h5; simp at h5
    · rw [(memN_iff _ _).2 hb] at h6; simp at h6
  · obtain ⟨oi, os, hoi, hos, h2⟩ := two i s _ _ hi hs
    unfold pairOk at h2
    simp only [Bool.and_eq_true, Bool.or_eq_true, decide_eq_true_eq, Bool.not_eq_true'] at h2
    obtain ⟨_, _, _, h7⟩ := h2.2
    exact disjN_spec h7 b' hb'
  · obtain ⟨oi, os, hoi, hos, h2⟩ := two i j _ _ hi hj
    unfold pairOk at h2
    simp only [Bool.and_eq_true, Bool.or_eq_true, decide_eq_true_eq, Bool.not_eq_true'] at h2
    intro hb
    rw [(memN_iff _ _).2 hb] at h2
    simp at h2
  · obtain ⟨oi, os, hoi, hos, h2⟩ := two i j _ _ hi hj
    unfold pairOk at h2
    simp only [Bool.and_eq_true, Bool.or_eq_true, decide_eq_true_eq] at h2
    rcases h2.2.1 with h3 | h3
    · omega
    · rw [memN_iff] at h3
      exact hanc _ _ h3 L hL hLj
/-! ### 3. The states, in the text's order -/
section
variable {S : St} {l : List Oper} {es : List (Option Eff)}
theorem fS_some {i : Nat} {o : Oper} {x : Option Eff} (ho : l[i]? = some o) (hx : es[i]? = some x) : fS S l es (i + 1) = stepS o x (fS S l es i) := by rw [fS, ho, hx]
theorem fS_nt (i : Nat) : (fS S l es i).nt = S.nt := by
  induction i with
  | zero => rfl
  | succ i ih =>
    rw [fS]
    split
    · rename_i o x _ _
      cases x <;> exact ih
    · exact ih
theorem fS_len (i : Nat) : (fS S l es i).bx.length ≤ (fS S l es (i + 1)).bx.length := by
  rw [fS]
  split
  · rename_i o x _ _
    cases x with
    | none => exact Nat.le_refl _
    | some e => simp only [stepS, app_len]; omega
  · exact Nat.le_refl _
theorem fS_len_le {i j : Nat} (h : i ≤ j) : (fS S l es i).bx.length ≤ (fS S l es j).bx.length := by
  induction h with
  | refl => exact Nat.le_refl _
  | step _ ih => exact Nat.le_trans ih (fS_len _)
theorem fS_bx {i j : Nat} (h : i ≤ j) {b : Nat} (hb : b < (fS S l es i).bx.length) : nthB (fS S l es j).bx b = nthB (fS S l es i).bx b := by
  induction h with
  | refl => rfl
  | @step j hij ih =>
    rw [← ih]
    have hb' := Nat.lt_of_lt_of_le hb (fS_len_le hij (S := S) (l := l) (es := es))
    rw [fS]
    split
    · rename_i o x _ _
      cases x with
      | none => rfl
      | some e => exact app_bx _ _ _ _ hb'
    · rfl
theorem fS_dead {i : Nat} (hi : i ≤ es.length) (hle : es.length ≤ l.length) (b : Nat) : b ∈ (fS S l es i).dead ↔ b ∈ S.dead ∨ ∃ j e, j < i ∧ es[j]? = some (some e) ∧ b ∈ e.kill := by
  induction i with
  | zero => simp [fS]
  | succ i ih =>
    have ih := ih (by omega)
    have ho : l[i]? = some (l[i]'(by omega)) := List.getElem?_eq_getElem _
    have hx : es[i]? = some (es[i]'(by omega)) := List.getElem?_eq_getElem _
    rw [fS_some ho hx]
    cases hq : es[i]'(by omega) with
    | none =>
      simp only [stepS, St.skip, ih]
      constructor
      · rintro (h | ⟨j, e, h1, h2, h3⟩)
        · exact .inl h
        · exact .inr ⟨j, e, by omega, h2, h3⟩
      · rintro (h | ⟨j, e, h1, h2, h3⟩)
        · exact .inl h
        · by_cases hj : j = i
          · subst hj; rw [hx, hq] at h2; simp at h2
          · exact .inr ⟨j, e, by omega, h2, h3⟩
    | some e' =>
      simp only [stepS, St.app, List.mem_append, ih]
      constructor
      · rintro (h | h | ⟨j, e, h1, h2, h3⟩)
        · exact .inr ⟨i, e', by omega, by rw [hx, hq], h⟩
        · exact .inl h
        · exact .inr ⟨j, e, by omega, h2, h3⟩
      · rintro (h | ⟨j, e, h1, h2, h3⟩)
        · exact .inr (.inl h)
        · by_cases hj : j = i
          · subst hj; rw [hx, hq] at h2; simp at h2; subst h2; exact .inl h3
          · exact .inr (.inr ⟨j, e, by omega, h2, h3⟩)
theorem fS_fz {i : Nat} (hi : i ≤ es.length) (hle : es.length ≤ l.length) (b : Nat) : b ∈ (fS S l es i).fz ↔ b ∈ S.fz ∨ ∃ j e, j < i ∧ es[j]? = some (some e) ∧ b ∈ e.frz := by
  induction i with
  | zero => simp [fS]
  | succ i ih =>
    have ih := ih (by omega)
    have ho : l[i]? = some (l[i]'(by omega)) := List.getElem?_eq_getElem _
    have hx : es[i]? = some (es[i]'(by omega)) := List.getElem?_eq_getElem _
    rw [fS_some ho hx]
    cases hq : es[i]'(by omega) with
    | none =>
      simp only [stepS, St.skip, ih]
      constructor
      · rintro (h | ⟨j, e, h1, h2, h3⟩)
        · exact .inl h
        · exact .inr ⟨j, e, by omega, h2, h3⟩
      · rintro (h | ⟨j, e, h1, h2, h3⟩)
        · exact .inl h
        · by_cases hj : j = i
          · subst hj; rw [hx, hq] at h2; simp at h2
          · exact .inr ⟨j, e, by omega, h2, h3⟩
    | some e' =>
      simp only [stepS, St.app, List.mem_append, ih]
      constructor
      · rintro (h | h | ⟨j, e, h1, h2, h3⟩)
        · exact .inr ⟨i, e', by omega, by rw [hx, hq], h⟩
        · exact .inl h
        · exact .inr ⟨j, e, by omega, h2, h3⟩
      · rintro (h | ⟨j, e, h1, h2, h3⟩)
        · exact .inr (.inl h)
        · by_cases hj : j = i
          · subst hj; rw [hx, hq] at h2; simp at h2; subst h2; exact .inl h3
          · exact .inr (.inr ⟨j, e, by omega, h2, h3⟩)
theorem fS_created {i : Nat} (hi : i ≤ es.length) (hle : es.length ≤ l.length) (b : Nat) : b < (fS S l es i).bx.length ↔ b < S.bx.length ∨ ∃ j e, j < i ∧ es[j]? = some (some e) ∧ e.nw.isSome = true ∧ b = (fS S l es j).bx.length := by
  induction i with
  | zero => simp [fS]
  | succ i ih =>
    have ih := ih (by omega)
    have ho : l[i]? = some (l[i]'(by omega)) := List.getElem?_eq_getElem _
    have hx : es[i]? = some (es[i]'(by omega)) := List.getElem?_eq_getElem _
    have hiff : b < (fS S l es (i + 1)).bx.length ↔ b < (fS S l es i).bx.length ∨ ∃ e, es[i]? = some (some e) ∧ e.nw.isSome = true ∧ b = (fS S l es i).bx.length := by
      rw [fS_some ho hx]
      cases hq : es[i]'(by omega) with
      | none =>
        rw [hx, hq]
        simp [stepS, St.skip]
      | some e' =>
        rw [hx, hq]
        simp only [stepS, app_len, Option.some.injEq, exists_eq_left']
        cases e'.nw <;> simp <;> omega
    rw [hiff, ih]
    constructor
    · rintro ((h | ⟨j, e, h1, h2⟩) | ⟨e, h1, h2⟩)
      · exact .inl h
      · exact .inr ⟨j, e, by omega, h2⟩
      · exact .inr ⟨i, e, by omega, h1, h2⟩
    · rintro (h | ⟨j, e, h1, h2⟩)
      · exact .inl (.inl h)
      · by_cases hj : j = i
        · subst hj; exact .inr ⟨e, h2⟩
        · exact .inl (.inr ⟨j, e, by omega, h2⟩)
def resI (es : List (Option Eff)) (j : Nat) : AV :=
  match es[j]? with
  | some (some e) => e.res
  | _ => .und
theorem fS_look {i : Nat} (hi : i ≤ es.length) (hle : es.length ≤ l.length) (t : Nat)
    (hd : ∀ (j k : Nat) (oj ok : Oper), l[j]? = some oj → l[k]? = some ok → oj.dst = some t → ok.dst = some t → j = k) :
    (∀ (j : Nat) (oj : Oper), j < i → l[j]? = some oj → oj.dst = some t → look (fS S l es i).tm t = resI es j) ∧
    ((∀ (j : Nat) (oj : Oper), j < i → l[j]? = some oj → oj.dst ≠ some t) → look (fS S l es i).tm t = look S.tm t) := by
  induction i with
  | zero => exact ⟨fun j oj h => by omega, fun _ => rfl⟩
  | succ i ih =>
    obtain ⟨ih1, ih2⟩ := ih (by omega)
    have ho : l[i]? = some (l[i]'(by omega)) := List.getElem?_eq_getElem _
    have hx : es[i]? = some (es[i]'(by omega)) := List.getElem?_eq_getElem _
    have hl : look (fS S l es (i + 1)).tm t = if (l[i]'(by omega)).dst = some t then resI es i else look (fS S l es i).tm t := by
      rw [fS_some ho hx]
      unfold resI
      rw [hx]
      cases hq : es[i]'(by omega) with
      | none => exact look_put _ _ _ _
      | some e => exact look_put _ _ _ _
    refine ⟨fun j oj hj hoj hdst => ?_, fun h => ?_⟩
    · rw [hl]
      by_cases hji : j = i
      · subst hji
        rw [ho] at hoj
        injection hoj with hoj
        rw [if_pos (by rw [hoj]; exact hdst)]
      · rw [if_neg (fun e => hji (hd j i oj _ hoj ho hdst e))]
        exact ih1 j oj (by omega) hoj hdst
    · rw [hl, if_neg (h i _ (by omega) ho)]
      exact ih2 fun j oj hj => h j oj (by omega)
end

theorem fin_nt : ∀ (tr : List TrK) (S : St), (fin tr S).nt = S.nt ∧ (fin tr S).tm = S.tm ∧ (fin tr S).dead = S.dead ∧ (fin tr S).fz = S.fz ∧ (fin tr S).bx.length = S.bx.length
  | [], S => ⟨rfl, rfl, rfl, rfl, rfl⟩
  | .sx b x :: l, S => by
    obtain ⟨h1, h2, h3, h4, h5⟩ := fin_nt l (S.setB none b x)
    simp only [fin]
    exact ⟨h1, h2, h3, h4, h5.trans (by simp [St.setB, setBx_eq])⟩
  | .skip :: l, S => fin_nt l S
  | .op _ _ _ _ _ :: l, S => fin_nt l S
  | .st :: l, S => fin_nt l S
theorem fin_none {b : Nat} : ∀ (tr : List TrK) (S : St), (∀ (s : Nat) (y : Bx), tr[s]? ≠ some (TrK.sx b y)) → nthB (fin tr S).bx b = nthB S.bx b
  | [], S, _ => rfl
  | .sx b' x :: l, S, h => by
    have hne : b' ≠ b := fun e => h 0 x (by simp [e])
    simp only [fin]
    rw [fin_none l _ fun s y => by have := h (s + 1) y; simpa using this]
    simp only [St.setB, nthB_eq, setBx_eq]
    rw [List.getElem?_set_ne hne]
  | .skip :: l, S, h => fin_none l S fun s y => by have := h (s + 1) y; simpa using this
  | .op _ _ _ _ _ :: l, S, h => fin_none l S fun s y => by have := h (s + 1) y; simpa using this
  | .st :: l, S, h => fin_none l S fun s y => by have := h (s + 1) y; simpa using this
theorem fin_some {b : Nat} {y : Bx} : ∀ (tr : List TrK) (S : St) (s : Nat), b < S.bx.length → tr[s]? = some (TrK.sx b y) → (∀ (s' : Nat) (y' : Bx), s < s' → tr[s']? ≠ some (TrK.sx b y')) → nthB (fin tr S).bx b = some y
  | [], S, s, _, h, _ => by simp at h
  | .sx b' x :: l, S, 0, hb, h, hm => by
    simp only [List.getElem?_cons_zero, Option.some.injEq, TrK.sx.injEq] at h
    obtain ⟨rfl, rfl⟩ := h
    simp only [fin]
    rw [fin_none l _ fun s y => by have := hm (s + 1) y (by omega); simpa using this]
    simp only [St.setB, nthB_eq, setBx_eq]
    rw [List.getElem?_set_self hb]
  | .sx b' x :: l, S, s + 1, hb, h, hm => by
    simp only [fin]
    exact fin_some l _ s (by simpa [St.setB, setBx_eq] using hb) (by simpa using h) fun s' y' hs => by have := hm (s' + 1) y' (by omega); simpa using this
  | .skip :: l, S, 0, hb, h, hm => by simp at h
  | .op _ _ _ _ _ :: l, S, 0, hb, h, hm => by simp at h
  | .st :: l, S, 0, hb, h, hm => by simp at h
  | .skip :: l, S, s + 1, hb, h, hm => fin_some l S s hb (by simpa using h) fun s' y' hs => by have := hm (s' + 1) y' (by omega); simpa using this
  | .op _ _ _ _ _ :: l, S, s + 1, hb, h, hm => fin_some l S s hb (by simpa using h) fun s' y' hs => by have := hm (s' + 1) y' (by omega); simpa using this
  | .st :: l, S, s + 1, hb, h, hm => fin_some l S s hb (by simpa using h) fun s' y' hs => by have := hm (s' + 1) y' (by omega); simpa using this
theorem fin_id : ∀ (tr : List TrK) (S : St), (∀ (i b : Nat) (y : Bx), tr[i]? ≠ some (TrK.sx b y)) → fin tr S = S
  | [], S, _ => rfl
  | .sx b' x :: l, S, h => absurd rfl (h 0 b' x)
  | .skip :: l, S, h => fin_id l S fun s b y => by have := h (s + 1) b y; simpa using this
  | .op _ _ _ _ _ :: l, S, h => fin_id l S fun s b y => by have := h (s + 1) b y; simpa using this
  | .st :: l, S, h => fin_id l S fun s b y => by have := h (s + 1) b y; simpa using this
theorem maxN {P : Nat → Prop} : ∀ (n : Nat), (∀ s, s < n → ¬ P s) ∨ ∃ s, s < n ∧ P s ∧ ∀ s', s < s' → s' < n → ¬ P s'
  | 0 => .inl fun s h => by omega
  | n + 1 => by
    by_cases hp : P n
    · exact .inr ⟨n, by omega, hp, fun s' h1 h2 => by omega⟩
    · rcases maxN (P := P) n with h | ⟨s, h1, h2, h3⟩
      · exact .inl fun s hs hq => by
          by_cases e : s = n
          · subst e; exact hp hq
          · exact h s (by omega) hq
      · exact .inr ⟨s, by omega, h2, fun s' k1 k2 hq => by
          by_cases e : s' = n
          · subst e; exact hp hq
          · exact h3 s' k1 (by omega) hq⟩

/-! ### 4. Any order -/
section
variable {E : En} {S : St} {ops : Array Oper} {es : List (Option Eff)} {tr : List TrK}
def crL (S : St) (ops : Array Oper) (es : List (Option Eff)) (L : Nat → Prop) (b : Nat) : Prop := b < S.bx.length ∨ ∃ j e, L j ∧ es[j]? = some (some e) ∧ e.nw.isSome = true ∧ b = (fS S ops.toList es j).bx.length
def klL (es : List (Option Eff)) (L : Nat → Prop) (b : Nat) : Prop := ∃ j e, L j ∧ es[j]? = some (some e) ∧ b ∈ e.kill
def fzL (S : St) (es : List (Option Eff)) (L : Nat → Prop) (b : Nat) : Prop := b ∈ S.fz ∨ ∃ j e, L j ∧ es[j]? = some (some e) ∧ b ∈ e.frz
structure InvL (E : En) (S : St) (ops : Array Oper) (es : List (Option Eff)) (tr : List TrK) (L : Nat → Prop) (tm : Nat → AV) (bx : Nat → Option Bx) (Z : Zone) (β : Nat → Value) (a : Act) (w : World) : Prop where
  g : GSim E S.nt tm (crL S ops es L) (fun b => crL S ops es L b ∧ b ∉ S.dead ∧ ¬ klL es L b) (fzL S es L) bx Z β a w
  t0 : ∀ t, (∀ j oj, L j → ops[j]? = some oj → oj.dst ≠ some t) → tm t = look S.tm t
  t1 : ∀ j oj t, L j → ops[j]? = some oj → oj.dst = some t → tm t = resI es j
  f : ∀ b, fzL S es L b → crL S ops es L b
  k : ∀ b, klL es L b → crL S ops es L b
  lt : ∀ j, L j → j < es.length
  c0 : ∀ b, (∀ s y, tr[s]? = some (.sx b y) → ¬ L s) → bx b = nthB (fS S ops.toList es es.length).bx b
  c1 : ∀ s b y, tr[s]? = some (.sx b y) → L s → (∀ s' y', tr[s']? = some (.sx b y') → L s' → s' ≤ s) → bx b = some y
theorem InvL.start {Z : Zone} {β : Nat → Value} {a : Act} {w : World} (hs : Sim E S Z β a w) : InvL E S ops es tr (fun _ => False) (look S.tm) (nthB (fS S ops.toList es es.length).bx) Z β a w := by
  refine ⟨hs.toGSim.mono (fun b h => .inl h) (fun b h => ?_) (fun b h => .inl h) (fun b h => ?_) (fun t => .inl rfl), fun _ _ => rfl, fun j oj t h => h.elim, fun b h => ?_, fun b h => ?_, fun j h => h.elim, fun _ _ => rfl, fun s b y _ h => h.elim⟩
  · rcases h.1 with h1 | ⟨j, e, h1, _⟩
    · exact ⟨h1, h.2.1⟩
    · exact h1.elim
  · rcases h.1 with h1 | ⟨j, e, h1, _⟩
    · exact fS_bx (S := S) (l := ops.toList) (es := es) (Nat.zero_le _) h1
    · exact h1.elim
  · rcases h with h1 | ⟨j, e, h1, _⟩
    · exact .inl (hs.fl b h1)
    · exact h1.elim
  · obtain ⟨j, e, h1, _⟩ := h
    exact h1.elim
theorem InvL.done (hp : Plan E S ops es tr) {L : Nat → Prop} {tm : Nat → AV} {bx : Nat → Option Bx} {Z : Zone} {β : Nat → Value} {a : Act} {w : World} (hs0 : ∀ b ∈ S.dead, b < S.bx.length) (h : InvL E S ops es tr L tm bx Z β a w) (hall : ∀ j, j < es.length → L j) : Sim E (fin tr (fS S ops.toList es es.length)) Z β a w := by
  have hle : es.length ≤ ops.toList.length := by simpa using hp.le
  have hcr : ∀ b, b < (fS S ops.toList es es.length).bx.length ↔ crL S ops es L b := fun b => by
    rw [fS_created (Nat.le_refl _) hle]
    constructor
    · rintro (h1 | ⟨j, e, h1, h2⟩)
      · exact .inl h1
      · exact .inr ⟨j, e, hall j h1, h2⟩
    · rintro (h1 | ⟨j, e, h1, h2⟩)
      · exact .inl h1
      · exact .inr ⟨j, e, h.lt j h1, h2⟩
  have hkl : ∀ b, b ∈ (fS S ops.toList es es.length).dead ↔ b ∈ S.dead ∨ klL es L b := fun b => by
    rw [fS_dead (Nat.le_refl _) hle]
    constructor
    · rintro (h1 | ⟨j, e, h1, h2⟩)
      · exact .inl h1
      · exact .inr ⟨j, e, hall j h1, h2⟩
    · rintro (h1 | ⟨j, e, h1, h2⟩)
      · exact .inl h1
      · exact .inr ⟨j, e, h.lt j h1, h2⟩
  have hfz : ∀ b, b ∈ (fS S ops.toList es es.length).fz ↔ fzL S es L b := fun b => by
    rw [fS_fz (Nat.le_refl _) hle]
    constructor
    · rintro (h1 | ⟨j, e, h1, h2⟩)
      · exact .inl h1
      · exact .inr ⟨j, e, hall j h1, h2⟩
    · rintro (h1 | ⟨j, e, h1, h2⟩)
      · exact .inl h1
      · exact .inr ⟨j, e, h.lt j h1, h2⟩
  have htm : ∀ t, look (fS S ops.toList es es.length).tm t = tm t := fun t => by
    obtain ⟨k1, k2⟩ := fS_look (S := S) (l := ops.toList) (Nat.le_refl es.length) hle t (fun j k oj ok h1 h2 h3 h4 => hp.dist j k t oj ok (by simpa using h1) (by simpa using h2) h3 h4)
    by_cases hex : ∃ j oj, L j ∧ ops[j]? = some oj ∧ oj.dst = some t
    · obtain ⟨j, oj, h1, h2, h3⟩ := hex
      rw [h.t1 j oj t h1 h2 h3]
      exact k1 j oj (h.lt j h1) (by simpa using h2) h3
    · rw [h.t0 t fun j oj h1 h2 h3 => hex ⟨j, oj, h1, h2, h3⟩]
      exact k2 fun j oj h1 h2 h3 => hex ⟨j, oj, hall j h1, by simpa using h2, h3⟩
  obtain ⟨q1, q2, q3, q4, q5⟩ := fin_nt tr (fS S ops.toList es es.length)
  have hbx : ∀ b, b < (fS S ops.toList es es.length).bx.length → nthB (fin tr (fS S ops.toList es es.length)).bx b = bx b := fun b hb => by
    rcases maxN (P := fun s => ∃ y, tr[s]? = some (.sx b y)) tr.length with h0 | ⟨s, h1, ⟨y, h2⟩, h3⟩
    · have hno : ∀ s y, tr[s]? ≠ some (TrK.sx b y) := fun s y e => h0 s (List.getElem?_eq_some_iff.1 e).1 ⟨y, e⟩
      rw [fin_none _ _ hno, h.c0 b fun s y e => absurd e (hno s y)]
    · rw [fin_some _ _ s hb h2 fun s' y' hs e => h3 s' hs (List.getElem?_eq_some_iff.1 e).1 ⟨y', e⟩]
      refine (h.c1 s b y h2 (hall s (by rw [← hp.trl]; exact h1)) fun s' y' e _ => ?_).symm
      rcases Nat.lt_or_ge s s' with hlt | hge
      · exact absurd ⟨y', e⟩ (h3 s' hlt (List.getElem?_eq_some_iff.1 e).1)
      · exact hge
  refine ⟨?_, fun b hb => ?_, fun b hb => ?_⟩
  · rw [q1, fS_nt]
    refine h.g.mono (fun b hb => by rw [q5]; exact (hcr b).2 hb) (fun b hb => ?_) (fun b hb => by rw [q4]; exact (hfz b).2 hb) (fun b hb => ?_) (fun t => .inl (by rw [q2]; exact htm t))
    · rw [q5, q3] at hb
      refine ⟨(hcr b).1 hb.1, fun hd => hb.2 ((hkl b).2 (.inl hd)), fun hk => hb.2 ((hkl b).2 (.inr hk))⟩
    · rw [q5] at hb
      exact hbx b hb.1
  · rw [q4] at hb
    rw [q5]
    exact (hcr b).2 (h.f b ((hfz b).1 hb))
  · rw [q3] at hb
    rw [q5]
    refine (hcr b).2 ?_
    rcases (hkl b).1 hb with h1 | h1
    · exact .inl (hs0 b h1)
    · exact h.k b h1

/-- One operation, out of its turn. -/
theorem locl_idx {P : Program} {tt : TT} {o : Oper} {ρ : Operand → AV} {bx bx' : Nat → Option Bx} {dead fz : List Nat} {nb : Nat} {K : Eff → Prop} (hi : isIdx o.op = true) (h : Locl P tt o ρ bx dead fz nb K)
    (hs : ∀ x ∈ o.op.operands, ∀ b, ρ x = .own b → ∀ z, bx b = some z → ∃ z', bx' b = some z' ∧ sameSh z z') : Locl P tt o ρ bx' dead fz nb K := by
  unfold Locl at h ⊢
  cases hop : o.op with
  | indexAddr t x y =>
    rw [hop] at h hs
    simp only at h ⊢
    rcases h with h | ⟨i, e, ie, j, h1, h2, h3, h4, h5, h6⟩
    · exact .inl h
    · refine .inr ⟨i, e, ie, j, h1, h2, h3, h4, h5, ?_⟩
      have hx := hs x (by simp [Op.operands])
      generalize ρ x = r at h6 hx
      cases r with
      | own b =>
        simp only at h6 ⊢
        obtain ⟨k1, k2⟩ := h6
        refine ⟨k1, ?_⟩
        cases hz : bx b with
        | none => rw [hz] at k2; exact k2.elim
        | some z =>
          rw [hz] at k2
          obtain ⟨z', hz', hsh⟩ := hx b rfl z hz
          rw [hz']
          rcases hsh with rfl | ⟨e', sz, rs, rs', rfl, rfl, hl⟩
          · exact k2
          · simp only at k2 ⊢
            exact ⟨k2.1, by rw [← hl]; exact k2.2.1, k2.2.2⟩
      | c y => cases y <;> exact h6
      | _ => exact h6
  | _ => rw [hop] at hi; simp [isIdx] at hi
theorem Plan.shape (hp : Plan E S ops es tr) : ∀ (n s b : Nat) (y z : Bx), s < n → tr[s]? = some (.sx b y) → isRowsB y = true → nthB (fS S ops.toList es s).bx b = some z → sameSh z y
  | 0, s, b, y, z, hn, _, _, _ => by omega
  | n + 1, s, b, y, z, hn, ht, hr, hz => by
    have hle : es.length ≤ ops.toList.length := by simpa using hp.le
    have fct : ∀ s' y', tr[s']? = some (.sx b y') → ∃ o, StX E o (fS S ops.toList es s') (fin (tr.take s') (fS S ops.toList es s')) b y' := fun s' y' h' => by
      have hl : s' < tr.length := (List.getElem?_eq_some_iff.1 h').1
      have hl2 : s' < es.length := by rw [← hp.trl]; exact hl
      have ho : ops[s']? = some (ops[s']'(by have := hp.le; omega)) := Array.getElem?_eq_getElem _
      have hx : es[s']? = some es[s'] := List.getElem?_eq_getElem hl2
      rcases hp.fact s' _ _ _ ho hx h' with ⟨h1, _⟩ | ⟨b', y2, h1, _, _, h2⟩
      · generalize es[s'] = x at h1
        cases x <;> simp [entS] at h1
      · injection h1 with h1 h3
        subst h1; subst h3
        exact ⟨_, h2⟩
    obtain ⟨o, hst⟩ := fct s y ht
    obtain ⟨z1, hz1, hs1⟩ := hst.shape hr
    have hlt : b < (fS S ops.toList es s).bx.length := by
      rw [nthB_eq] at hz
      exact (List.getElem?_eq_some_iff.1 hz).1
    rcases maxN (P := fun s' => ∃ y, tr[s']? = some (.sx b y)) s with hno | ⟨s', h1, ⟨y', h2⟩, h3⟩
    · rw [fin_none (tr.take s) _ (fun s' y e => by
        rw [List.getElem?_take] at e
        split at e
        · rename_i hsi; exact hno s' hsi ⟨y, e⟩
        · simp at e)] at hz1
      rw [hz] at hz1
      injection hz1 with hz1
      subst hz1
      exact hs1
    · rw [fin_some (tr.take s) _ s' hlt (by rw [List.getElem?_take, if_pos h1]; exact h2) (fun s2 y2 hs e => by
        rw [List.getElem?_take] at e
        split at e
        · rename_i hsi; exact h3 s2 hs hsi ⟨y2, e⟩
        · simp at e)] at hz1
      injection hz1 with hz1
      subst hz1
      have hr' : isRowsB y' = true := by
        rcases hs1 with rfl | ⟨e, sz, rs, rs', rfl, rfl, _⟩
        · exact hr
        · rfl
      obtain ⟨o', hst'⟩ := fct s' y' h2
      obtain ⟨z2, hz2, _⟩ := hst'.shape hr'
      have hlt' : b < (fS S ops.toList es s').bx.length := by
        have hh := (fin_nt (tr.take s') (fS S ops.toList es s')).2.2.2.2
        rw [nthB_eq] at hz2
        have := (List.getElem?_eq_some_iff.1 hz2).1
        omega
      have hz' : nthB (fS S ops.toList es s').bx b = some z := by
        rw [← fS_bx (S := S) (l := ops.toList) (es := es) (Nat.le_of_lt h1) hlt']
        exact hz
      exact (Plan.shape hp n s' b y' z (by omega) h2 hr' hz').trans hs1
theorem InvL.step (hT : TOk E.P E.tt) (hp : Plan E S ops es tr) {L : Nat → Prop} {tm : Nat → AV} {bx : Nat → Option Bx} {Z : Zone} {β : Nat → Value} {a : Act} {w : World} (h : InvL E S ops es tr L tm bx Z β a w) (hL : Closed ops L)
    {i : Nat} {o : Oper} {x : Option Eff} (hi : ¬ L i) (hL' : Closed ops (fun j => L j ∨ j = i)) (ho : ops[i]? = some o) (hx : es[i]? = some x) :
    Region.wanted o (yielded ops a.tmps) = x.isSome ∧
    match x with
    | none => ∃ tm' bx', InvL E S ops es tr (fun j => L j ∨ j = i) tm' bx' Z β (a.put o.dst undef) w
    | some e => OpRun E.P o a w fun v w' => ∃ tm' bx' Z' β', InvL E S ops es tr (fun j => L j ∨ j = i) tm' bx' Z' β' (a.put o.dst v) w' ∧ Evo S.bx.length Z β Z' β' w w' := by
  have hle : es.length ≤ ops.toList.length := by simpa using hp.le
  have hil : i < es.length := (List.getElem?_eq_some_iff.1 hx).1
  have hol : ops.toList[i]? = some o := by simpa using ho
  obtain ⟨tk, htk⟩ : ∃ tk, tr[i]? = some tk := ⟨_, List.getElem?_eq_getElem (by rw [hp.trl]; exact hil)⟩
  -- what it looks at is as in the text's order
  have hlook : ∀ t ∈ looksN (ops.toList.map (·.dst)) o, tm t = look (fS S ops.toList es i).tm t := fun t ht => by
    obtain ⟨k1, k2⟩ := fS_look (S := S) (l := ops.toList) (Nat.le_of_lt hil) hle t (fun j k oj ok h1 h2 h3 h4 => hp.dist j k t oj ok (by simpa using h1) (by simpa using h2) h3 h4)
    by_cases hex : ∃ j oj, j < i ∧ ops[j]? = some oj ∧ oj.dst = some t
    · obtain ⟨j, oj, h1, h2, h3⟩ := hex
      have hLj : L j := by
        rcases (hp.tmp i j t o oj ho h2 ht h3).1 h1 _ hL' (.inr rfl) with h4 | h4
        · exact h4
        · omega
      rw [h.t1 j oj t hLj h2 h3, k1 j oj h1 (by simpa using h2) h3]
    · rw [k2 fun j oj h1 h2 h3 => hex ⟨j, oj, h1, by simpa using h2, h3⟩]
      refine h.t0 t fun j oj h1 h2 h3 => ?_
      by_cases hlt : j < i
      · exact hex ⟨j, oj, hlt, h2, h3⟩
      · by_cases hji : j = i
        · exact hi (hji ▸ h1)
        · exact hi ((hp.tmp i j t o oj ho h2 ht h3).2 (by omega) L hL h1)
  have hgd : ∀ r, guardV (ops.toList.map (·.dst)) (fS S ops.toList es i).tm o.guard r → Region.wanted o (yielded ops a.tmps) = r := fun r f1 => by
    refine guardV_spec (tm := tm) f1 fun j want t hg ht => ?_
    have hmem : t ∈ looksN (ops.toList.map (·.dst)) o := by
      unfold looksN
      rw [hg]
      simp only [List.mem_append]
      exact .inr (by rw [ht]; simp)
    have hA := h.g.tr t
    rw [hlook t hmem] at hA
    exact ⟨fun b hb => by rw [hb] at hA; exact hA.bool_inv, fun hb => by rw [hb] at hA; exact hA.und_inv⟩
  have hopd : ∀ y ∈ o.op.operands, AR Z w β (crL S ops es L) (evT (fS S ops.toList es i).tm y) (a.eval y) := fun y hy => by
    cases y with
    | tmp t =>
      have := h.g.tr t
      rw [hlook t (by unfold looksN; simp only [List.mem_append, List.mem_filterMap]; exact .inl ⟨.tmp t, by simpa using hy, rfl⟩)] at this
      exact this
    | const v => exact .cAV v
    | func g => exact AR.evT (tm := []) (a := a) (fun t => .any _) (.func g)
    | global g => exact .any _
  have ht1 : ∀ (tm' : Nat → AV) (r : AV), resI es i = r → (∀ t, tm' t = if o.dst = some t then r else tm t) →
      (∀ t, (∀ j oj, (L j ∨ j = i) → ops[j]? = some oj → oj.dst ≠ some t) → tm' t = look S.tm t) ∧ (∀ j oj t, (L j ∨ j = i) → ops[j]? = some oj → oj.dst = some t → tm' t = resI es j) := fun tm' r hr htm' => by
    refine ⟨fun t hn => ?_, fun j oj t hj hoj hdst => ?_⟩
    · rw [htm', if_neg (hn i o (.inr rfl) ho)]
      exact h.t0 t fun j oj hj => hn j oj (.inl hj)
    · rw [htm']
      rcases hj with hj | rfl
      · have : o.dst ≠ some t := fun e => hi (by
          have := hp.dist i j t o oj ho hoj e hdst
          rw [this]; exact hj)
        rw [if_neg this]
        exact h.t1 j oj t hj hoj hdst
      · rw [ho] at hoj
        injection hoj with hoj
        subst hoj
        rw [if_pos hdst, hr]
  have hentj : ∀ j e, es[j]? = some (some e) → (∃ nb us, tr[j]? = some (.op nb us e.kill e.frz e.nw.isSome) ∧ nb = (fS S ops.toList es j).bx.length) ∨ (e = e0) := fun j e hj => by
    have hjl : j < es.length := (List.getElem?_eq_some_iff.1 hj).1
    have hoj : ops[j]? = some (ops[j]'(by have := hp.le; omega)) := Array.getElem?_eq_getElem _
    have htj : tr[j]? = some (tr[j]'(by rw [hp.trl]; exact hjl)) := List.getElem?_eq_getElem _
    rcases hp.fact j _ _ _ hoj hj htj with ⟨h1, _⟩ | ⟨b, y, h1, h2, _⟩
    · left
      rw [htj, h1]
      exact ⟨_, _, rfl, rfl⟩
    · right
      injection h2
  rcases hp.fact i o x tk ho hx htk with ⟨hent, f1, f2, f3⟩ | ⟨b0, y0, hent, rfl, f1, hd0, hbd, hbf, ty, xo, yo, it, z0, hop, hti, hcs, halt⟩
  case inr =>
    subst hent
    refine ⟨hgd _ f1, ?_⟩
    simp only
    have hlt0 : b0 < (fS S ops.toList es i).bx.length := by
      have hh := (fin_nt (tr.take i) (fS S ops.toList es i)).2.2.2.2
      rw [nthB_eq] at hcs
      have := (List.getElem?_eq_some_iff.1 hcs).1
      omega
    have hcr0 : crL S ops es L b0 := by
      rcases (fS_created (S := S) (l := ops.toList) (es := es) (Nat.le_of_lt hil) hle b0).1 hlt0 with h1 | ⟨j, e, h1, h2, h3, h4⟩
      · exact .inl h1
      · rcases hentj j e h2 with ⟨nb, us, h5, h6⟩ | h5
        · rcases (hp.sxo j i nb b0 us _ _ _ y0 h5 htk).1 h3 (h4.trans h6.symm) _ hL' (.inr rfl) with h7 | h7
          · exact .inr ⟨j, e, h7, h2, h3, h4⟩
          · omega
        · rw [h5] at h3; simp [e0] at h3
    have hnd : b0 ∉ S.dead := fun hd => hbd ((fS_dead (Nat.le_of_lt hil) hle b0).2 (.inl hd))
    have hnk : ¬ klL es L b0 := fun ⟨j, e, h1, h2, h3⟩ => by
      rcases hentj j e h2 with ⟨nb, us, h5, h6⟩ | h5
      · exact (hp.sxo j i nb b0 us _ _ _ y0 h5 htk).2.2.1 h3
      · rw [h5] at h3; simp [e0] at h3
    have hnf : ¬ fzL S es L b0 := fun hf => by
      rcases hf with h1 | ⟨j, e, h1, h2, h3⟩
      · exact hbf ((fS_fz (Nat.le_of_lt hil) hle b0).2 (.inl h1))
      · rcases hentj j e h2 with ⟨nb, us, h5, h6⟩ | h5
        · exact (hp.sxo j i nb b0 us _ _ _ y0 h5 htk).2.2.2 h3
        · rw [h5] at h3; simp [e0] at h3
    have hbef : ∀ s b y, tr[s]? = some (.sx b y) → (L s ↔ s < i) := fun s b y e => by
      constructor
      · intro hl
        rcases Nat.lt_trichotomy s i with h1 | h1 | h1
        · exact h1
        · exact absurd (h1 ▸ hl) hi
        · exact absurd (hp.sxs i s b0 b y0 y htk e h1 L hL hl) hi
      · intro hlt
        rcases hp.sxs s i b b0 y y0 e htk hlt _ hL' (.inr rfl) with h1 | h1
        · exact h1
        · omega
    have hcur : bx b0 = some z0 := by
      rcases maxN (P := fun s => ∃ y, tr[s]? = some (.sx b0 y)) i with hno | ⟨s, h1, ⟨y, h2⟩, h3⟩
      · rw [fin_none (tr.take i) _ (fun s y e => by
          rw [List.getElem?_take] at e
          split at e
          · rename_i hsi; exact hno s hsi ⟨y, e⟩
          · simp at e)] at hcs
        rw [h.c0 b0 fun s y e hl => hno s ((hbef s b0 y e).1 hl) ⟨y, e⟩, fS_bx (S := S) (l := ops.toList) (es := es) (Nat.le_of_lt hil) hlt0]
        exact hcs
      · rw [fin_some (tr.take i) _ s hlt0 (by rw [List.getElem?_take, if_pos h1]; exact h2) (fun s' y' hs e => by
          rw [List.getElem?_take] at e
          split at e
          · rename_i hsi; exact h3 s' hs hsi ⟨y', e⟩
          · simp at e)] at hcs
        rw [h.c1 s b0 y h2 ((hbef s b0 y h2).2 h1) fun s' y' e hl => ?_]
        · exact hcs
        · rcases Nat.lt_or_ge s s' with hlt | hge
          · exact absurd ⟨y', e⟩ (h3 s' hlt ((hbef s' b0 y' e).1 hl))
          · exact hge
    have hxo' := hopd xo (by rw [hop]; simp [Op.operands])
    have hyo' := hopd yo (by rw [hop]; simp [Op.operands])
    have hclt : ∀ b, crL S ops es L b → b < (fS S ops.toList es es.length).bx.length := fun b hb => by
      rw [fS_created (Nat.le_refl _) hle]
      rcases hb with h1 | ⟨j, e, h1, h2⟩
      · exact .inl h1
      · exact .inr ⟨j, e, h.lt j h1, h2⟩
    obtain ⟨w', hr, hW, he⟩ : ∃ w', (execOp a.eval o).run E.P w = .ok .skip w' ∧ WR E.base w Z β (crL S ops es L) (fun b => crL S ops es L b ∧ b ∉ S.dead ∧ ¬ klL es L b) (fzL S es L) (upd bx b0 (some y0)) w' ∧ Ext Z Z w w' := by
      rcases halt with ⟨off, cs, m, hxo, rfl, hpl, hml, hlen, hy0⟩ | ⟨off, e, sz, j, rs, row, m, hxo, rfl, hm, hrow, hml, hj, hlen, hy0⟩ | ⟨off, cs, b', e, sz, rs, hxo, rfl, hyo, hdd, hbr, hn1, hlen, hy0⟩
      · rw [hxo] at hxo'
        have hst : stOf bx (List.range (fS S ops.toList es es.length).bx.length) (evT (fS S ops.toList es i).tm yo) = some m := by
          generalize evT (fS S ops.toList es i).tm yo = r at hpl
          unfold plainV at hpl
          split at hpl <;> first | (simp only [Option.some.injEq] at hpl; subst hpl; rfl) | simp at hpl
        rw [hy0]
        exact op_storePtr (P := E.P) (deadl := List.range (fS S ops.toList es es.length).bx.length) hop (hT ty it hti) hml hlen h.g.wr.rebase (fun b hc hn => absurd (List.mem_range.2 (hclt b hc)) hn) hxo' ⟨hcr0, hnd, hnk⟩ hcur hnf hyo' hst
      · rw [hxo] at hxo'
        rw [hy0]
        exact op_storeOptr (P := E.P) hop (hT ty it hti) hml hrow hj hlen h.g.wr.rebase hxo' ⟨hcr0, hnd, hnk⟩ hcur hnf hyo' hm
      · rw [hxo] at hxo'
        rw [hyo] at hyo'
        have hcb' : crL S ops es L b' := hyo'.own_cr
        have hown : b' ∈ ownsOf y0 := by rw [hy0]; simp [ownsOf]
        have hnd' : b' ∉ S.dead := fun hd => hdd ((fS_dead (Nat.le_of_lt hil) hle b').2 (.inl hd))
        have hnk' : ¬ klL es L b' := fun ⟨j, e, h1, h2, h3⟩ => by
          rcases hentj j e h2 with ⟨nb, us, h5, h6⟩ | h5
          · exact hp.sxw j i nb b0 us _ _ _ y0 h5 htk b' hown h3
          · rw [h5] at h3; simp [e0] at h3
        have hlt' : b' < (fS S ops.toList es i).bx.length := by
          rw [nthB_eq] at hbr
          exact (List.getElem?_eq_some_iff.1 hbr).1
        have hbx' : bx b' = some (.rows e sz rs) := by
          rw [h.c0 b' fun s y e1 _ => hp.sxv s i b' b0 y y0 e1 htk hown, fS_bx (S := S) (l := ops.toList) (es := es) (Nat.le_of_lt hil) hlt']
          exact hbr
        have hst : stOf bx ((List.range (fS S ops.toList es es.length).bx.length).filter fun x => x != b') (.own b') = some [.own b'] := by
          simp [stOf, hbx']
        rw [hy0]
        exact op_storePtr (P := E.P) (deadl := (List.range (fS S ops.toList es es.length).bx.length).filter fun x => x != b') hop (hT ty it hti) (by simp [hn1]) hlen h.g.wr.rebase (fun b hc hn => by
          by_cases hbb : b = b'
          · subst hbb; exact ⟨hcb', hnd', hnk'⟩
          · exact absurd (List.mem_filter.2 ⟨List.mem_range.2 (hclt b hc), by simpa using hbb⟩) hn) hxo' ⟨hcr0, hnd, hnk⟩ hcur hnf hyo' hst
    unfold OpRun
    rw [hr]
    have hg : GSim E S.nt tm (crL S ops es L) (fun b => crL S ops es L b ∧ b ∉ S.dead ∧ ¬ klL es L b) (fzL S es L) (upd bx b0 (some y0)) Z β a w' :=
      ⟨h.g.wr.join hW, h.g.z0, h.g.zn, h.g.tsz, fun t => (h.g.tr t).ext he (fun b hb => ⟨hb, rfl⟩), h.g.df.kept rfl (.of hW.oth)⟩
    have hdst : dstOk S.nt o.dst = true := by rw [hd0]; rfl
    have hc : ∀ b, crL S ops es (fun j => L j ∨ j = i) b ↔ crL S ops es L b := fun b => by
      constructor
      · rintro (h1 | ⟨j, e, h1 | rfl, h2, h3, h4⟩)
        · exact .inl h1
        · exact .inr ⟨j, e, h1, h2, h3, h4⟩
        · rw [hx] at h2; simp at h2; rw [← h2] at h3; simp [e0] at h3
      · rintro (h1 | ⟨j, e, h1, h2⟩)
        · exact .inl h1
        · exact .inr ⟨j, e, .inl h1, h2⟩
    have hk' : ∀ b, klL es (fun j => L j ∨ j = i) b ↔ klL es L b := fun b => by
      constructor
      · rintro ⟨j, e, h1 | rfl, h2, h3⟩
        · exact ⟨j, e, h1, h2, h3⟩
        · rw [hx] at h2; simp at h2; rw [← h2] at h3; simp [e0] at h3
      · rintro ⟨j, e, h1, h2⟩
        exact ⟨j, e, .inl h1, h2⟩
    have hf' : ∀ b, fzL S es (fun j => L j ∨ j = i) b ↔ fzL S es L b := fun b => by
      constructor
      · rintro (h1 | ⟨j, e, h1 | rfl, h2, h3⟩)
        · exact .inl h1
        · exact .inr ⟨j, e, h1, h2, h3⟩
        · rw [hx] at h2; simp at h2; rw [← h2] at h3; simp [e0] at h3
      · rintro (h1 | ⟨j, e, h1, h2⟩)
        · exact .inl h1
        · exact .inr ⟨j, e, .inl h1, h2⟩
    obtain ⟨q1, q2⟩ := ht1 (fun t => if o.dst = some t then .und else tm t) .und (by unfold resI; rw [hx]; rfl) (fun t => rfl)
    refine ⟨_, _, Z, β, ⟨(hg.skip hdst).mono (fun b hb => (hc b).2 hb) (fun b hb => ⟨(hc b).1 hb.1, hb.2.1, fun hq => hb.2.2 ((hk' b).2 hq)⟩) (fun b hb => (hf' b).2 hb) (fun b hb => rfl) (fun t => .inl rfl), q1, q2, fun b hb => (hc b).2 (h.f b ((hf' b).1 hb)), fun b hb => (hc b).2 (h.k b ((hk' b).1 hb)), fun j hj => ?_, fun b hb => ?_, fun s b y e hl hm => ?_⟩, ⟨he, fun _ _ => rfl, .of hW.oth⟩⟩
    · rcases hj with hj | rfl
      · exact h.lt j hj
      · exact hil
    · have hne : b ≠ b0 := fun e => hb i y0 (by rw [e]; exact htk) (.inr rfl)
      rw [upd, if_neg hne]
      exact h.c0 b fun s y e hl => hb s y e (.inl hl)
    · by_cases hbb : b = b0
      · subst hbb
        have h1 := hm i y0 htk (.inr rfl)
        have h2 : s = i := by
          rcases hl with hl | hl
          · have := (hbef s b y e).1 hl
            omega
          · exact hl
        subst h2
        rw [htk] at e
        injection e with e
        injection e with e1 e2
        rw [upd, if_pos rfl, e2]
      · rw [upd, if_neg hbb]
        refine h.c1 s b y e ?_ fun s' y' e' hl' => hm s' y' e' (.inl hl')
        rcases hl with hl | rfl
        · exact hl
        · rw [htk] at e
          injection e with e
          injection e with e1 e2
          exact absurd e1.symm hbb
  have hns : ∀ b y, tr[i]? ≠ some (TrK.sx b y) := fun b y e => by
    rw [htk, hent] at e
    cases x <;> simp [entS] at e
  have hc0 : ∀ b, (∀ s y, tr[s]? = some (.sx b y) → ¬ (L s ∨ s = i)) → bx b = nthB (fS S ops.toList es es.length).bx b := fun b hb => h.c0 b fun s y e hl => hb s y e (.inl hl)
  have hc1 : ∀ s b y, tr[s]? = some (.sx b y) → (L s ∨ s = i) → (∀ s' y', tr[s']? = some (.sx b y') → (L s' ∨ s' = i) → s' ≤ s) → bx b = some y := fun s b y e hl hm => by
    rcases hl with hl | rfl
    · exact h.c1 s b y e hl fun s' y' e' hl' => hm s' y' e' (.inl hl')
    · exact absurd e (hns b y)
  rw [fS_nt] at f2
  refine ⟨hgd _ f1, ?_⟩
  cases x with
  | none =>
    refine ⟨_, _, (h.g.skip f2).mono (fun b hb => ?_) (fun b hb => ?_) (fun b hb => ?_) (fun b hb => rfl) (fun t => .inl rfl), (ht1 _ .und (by unfold resI; rw [hx]) (fun t => rfl)).1, (ht1 _ .und (by unfold resI; rw [hx]) (fun t => rfl)).2, fun b hb => ?_, fun b hb => ?_, fun j hj => ?_, hc0, hc1⟩
    · rcases hb with h1 | ⟨j, e, h1, h2⟩
      · exact .inl h1
      · exact .inr ⟨j, e, .inl h1, h2⟩
    · have hc : crL S ops es L b := by
        rcases hb.1 with h1 | ⟨j, e, h1 | rfl, h2, h3⟩
        · exact .inl h1
        · exact .inr ⟨j, e, h1, h2, h3⟩
        · rw [hx] at h2; simp at h2
      exact ⟨hc, hb.2.1, fun ⟨j, e, h1, h2⟩ => hb.2.2 ⟨j, e, .inl h1, h2⟩⟩
    · rcases hb with h1 | ⟨j, e, h1, h2⟩
      · exact .inl h1
      · exact .inr ⟨j, e, .inl h1, h2⟩
    · have : fzL S es L b := by
        rcases hb with h1 | ⟨j, e, h1 | rfl, h2, h3⟩
        · exact .inl h1
        · exact .inr ⟨j, e, h1, h2, h3⟩
        · rw [hx] at h2; simp at h2
      rcases h.f b this with h1 | ⟨j, e, h1, h2⟩
      · exact .inl h1
      · exact .inr ⟨j, e, .inl h1, h2⟩
    · have : klL es L b := by
        obtain ⟨j, e, h1 | rfl, h2, h3⟩ := hb
        · exact ⟨j, e, h1, h2, h3⟩
        · rw [hx] at h2; simp at h2
      rcases h.k b this with h1 | ⟨j, e, h1, h2⟩
      · exact .inl h1
      · exact .inr ⟨j, e, .inl h1, h2⟩
    · rcases hj with hj | rfl
      · exact h.lt j hj
      · exact hil
  | some e =>
    simp only
    have hloc := f3 e rfl
    have hcrnew : ∀ b, crL S ops es (fun j => L j ∨ j = i) b ↔ crL S ops es L b ∨ (b = (fS S ops.toList es i).bx.length ∧ e.nw.isSome = true) := fun b => by
      constructor
      · rintro (h1 | ⟨j, e', h1 | rfl, h2, h3, h4⟩)
        · exact .inl (.inl h1)
        · exact .inl (.inr ⟨j, e', h1, h2, h3, h4⟩)
        · rw [hx] at h2; simp at h2; subst h2; exact .inr ⟨h4, h3⟩
      · rintro ((h1 | ⟨j, e', h1, h2⟩) | ⟨h1, h2⟩)
        · exact .inl h1
        · exact .inr ⟨j, e', .inl h1, h2⟩
        · exact .inr ⟨i, e, .inr rfl, hx, h2, h1⟩
    have hsucc : ∀ (j : Nat) (e' : Eff), es[j]? = some (some e') → e'.nw.isSome = true → (fS S ops.toList es j).bx.length < (fS S ops.toList es (j + 1)).bx.length := fun j e' h1 h2 => by
      have hj : j < es.length := (List.getElem?_eq_some_iff.1 h1).1
      have hoj : ops.toList[j]? = some (ops.toList[j]'(by omega)) := List.getElem?_eq_getElem _
      rw [fS_some hoj h1]
      simp only [stepS, app_len, h2, if_true]
      omega
    have hnotcr : e.nw.isSome = true → ¬ crL S ops es L (fS S ops.toList es i).bx.length := fun hn hc => by
      rcases hc with h1 | ⟨j, e', h1, h2, h3, h4⟩
      · have := fS_len_le (S := S) (l := ops.toList) (es := es) (Nat.zero_le i)
        simp only [fS] at this
        omega
      · by_cases hji : j < i
        · have := hsucc j e' h2 h3
          have := fS_len_le (S := S) (l := ops.toList) (es := es) (i := j + 1) (j := i) (by omega)
          omega
        · by_cases hji' : j = i
          · exact hi (hji' ▸ h1)
          · have := hsucc i e hx hn
            have := fS_len_le (S := S) (l := ops.toList) (es := es) (i := i + 1) (j := j) (by omega)
            omega
    have hbxnew : ∀ y, e.nw = some y → nthB (fS S ops.toList es es.length).bx (fS S ops.toList es i).bx.length = some y := fun y hy => by
      have h1 := hsucc i e hx (by rw [hy]; rfl)
      rw [fS_bx (S := S) (l := ops.toList) (es := es) (i := i + 1) (by omega) h1, fS_some hol hx]
      exact app_bx_new _ _ _ y hy
    have htop : tr[i]? = some (.op (fS S ops.toList es i).bx.length (usesAll o (fS S ops.toList es i)) e.kill e.frz e.nw.isSome) := by rw [htk, hent]; rfl
    have husn := hp.usn i _ _ _ _ _ htop
    have hshape : ∀ b, b ∈ usesAll o (fS S ops.toList es i) → ∀ z, nthB (fS S ops.toList es i).bx b = some z → (bx b = some z) ∨ (isIdx o.op = true ∧ ∃ z', bx b = some z' ∧ sameSh z z') := fun b hus z hz => by
      have hbn := husn b hus
      have hend : nthB (fS S ops.toList es es.length).bx b = some z := by rw [fS_bx (S := S) (l := ops.toList) (es := es) (by omega) hbn]; exact hz
      rcases maxN (P := fun s => L s ∧ ∃ y, tr[s]? = some (.sx b y)) tr.length with hno | ⟨s, h1, ⟨h2, y, h3⟩, h4⟩
      · left
        rw [h.c0 b fun s y e hl => hno s (List.getElem?_eq_some_iff.1 e).1 ⟨hl, y, e⟩]
        exact hend
      · have hbx : bx b = some y := h.c1 s b y h3 h2 fun s' y' e hl => by
          rcases Nat.lt_or_ge s s' with hlt | hge
          · exact absurd ⟨hl, y', e⟩ (h4 s' hlt (List.getElem?_eq_some_iff.1 e).1)
          · exact hge
        rcases (hp.sxo i s _ _ _ _ _ _ y htop h3).2.1 hus with h5 | ⟨h5, oi, h6, h7⟩
        · exact absurd (h5 L hL h2) hi
        · rw [ho] at h6
          injection h6 with h6
          subst h6
          have hslt : b < (fS S ops.toList es s).bx.length ∨ ¬ b < (fS S ops.toList es s).bx.length := Classical.em _
          rcases hslt with hslt | hslt
          · have hzs : nthB (fS S ops.toList es s).bx b = some z := by
              have hsl : s ≤ es.length := by rw [← hp.trl]; omega
              rw [← fS_bx (S := S) (l := ops.toList) (es := es) hsl hslt]
              exact hend
            exact .inr ⟨h7, y, hbx, hp.shape (s + 1) s b y z (by omega) h3 h5 hzs⟩
          · exfalso
            have hl2 : s < es.length := by rw [← hp.trl]; exact h1
            have hos : ops[s]? = some (ops[s]'(by have := hp.le; omega)) := Array.getElem?_eq_getElem _
            have hxs : es[s]? = some es[s] := List.getElem?_eq_getElem hl2
            rcases hp.fact s _ _ _ hos hxs h3 with ⟨k1, _⟩ | ⟨b', y2, k1, _, _, k2⟩
            · generalize es[s] = x' at k1
              cases x' <;> simp [entS] at k1
            · injection k1 with k1 k3
              subst k1; subst k3
              obtain ⟨z2, hz2, _⟩ := k2.shape h5
              have hh := (fin_nt (tr.take s) (fS S ops.toList es s)).2.2.2.2
              rw [nthB_eq] at hz2
              have := (List.getElem?_eq_some_iff.1 hz2).1
              omega
    obtain ⟨bxR, hbxR, hloc'⟩ : ∃ bxR : Nat → Option Bx, (∀ b, b ∈ usesAll o (fS S ops.toList es i) → bx b = bxR b) ∧ Locl E.P E.tt o (evT (fS S ops.toList es i).tm) bxR (fS S ops.toList es i).dead (fS S ops.toList es i).fz (fS S ops.toList es i).bx.length (fun e' => e' = e) := by
      by_cases hidx : isIdx o.op = true
      · refine ⟨bx, fun _ _ => rfl, locl_idx hidx hloc fun x hx b hb z hz => ?_⟩
        have hus : b ∈ usesAll o (fS S ops.toList es i) := by
          unfold usesAll
          have hu : needU o.op = true := by
            cases hop : o.op <;> rw [hop] at hidx <;> simp [isIdx] at hidx
            rfl
          rw [hu]
          exact List.mem_flatMap.2 ⟨x, by simpa using hx, by rw [hb]; simp [usesOf]⟩
        rcases hshape b hus z hz with h1 | ⟨_, h1⟩
        · exact ⟨z, h1, .inl rfl⟩
        · exact h1
      · refine ⟨nthB (fS S ops.toList es i).bx, fun b hus => ?_, hloc⟩
        have hbn := husn b hus
        obtain ⟨z, hz⟩ : ∃ z, nthB (fS S ops.toList es i).bx b = some z := by
          rw [nthB_eq]
          exact ⟨_, List.getElem?_eq_getElem hbn⟩
        rcases hshape b hus z hz with h1 | ⟨h1, _⟩
        · rw [h1, hz]
        · exact absurd h1 hidx
    obtain ⟨hfr, hk, hr⟩ := loc_sound (a := a) (w := w) (bxR := bxR) (deadl := (fS S ops.toList es i).dead) (fzl := (fS S ops.toList es i).fz) (nb := (fS S ops.toList es i).bx.length) hT hloc' h.g.wr.rebase hopd
      (fun y hy => ⟨hnotcr (by rw [hy]; rfl), fun hf => hnotcr (by rw [hy]; rfl) (h.f _ hf), by
        rw [h.c0 _ fun s y e1 hl => hi ((hp.sxo i s _ _ _ _ _ _ y htop e1).1 (by rw [hy]; rfl) rfl L hL hl)]
        exact hbxnew y hy⟩)
      (fun hu y hy b hb hcb => by
        have hus : b ∈ usesAll o (fS S ops.toList es i) := by
          unfold usesAll
          rw [hu]
          exact List.mem_flatMap.2 ⟨y, by simpa using hy, hb⟩
        have hbn := hp.usn i _ _ _ _ _ htop b hus
        refine ⟨?_, fun hd => ⟨hcb, fun hd' => hd ((fS_dead (by omega) hle b).2 (.inl hd')), fun ⟨j, e', h1, h2, h3⟩ => ?_⟩, fun hn hf => ?_⟩
        · exact hbxR b hus
        · by_cases hji : j < i
          · exact hd ((fS_dead (by omega) hle b).2 (.inr ⟨j, e', hji, h2, h3⟩))
          · by_cases hji' : j = i
            · exact hi (hji' ▸ h1)
            · rcases hentj j e' h2 with ⟨nb, us, h5, h6⟩ | h5
              · exact hi ((hp.use i j _ _ o _ _ _ _ _ _ _ _ ho htop h5 (by omega) b hus).1 h3 L hL h1)
              · rw [h5] at h3; simp [e0] at h3
        · rcases hf with h1 | ⟨j, e', h1, h2, h3⟩
          · exact (fS_fz (by omega) hle b).2 (.inl h1)
          · by_cases hji : j < i
            · exact (fS_fz (by omega) hle b).2 (.inr ⟨j, e', hji, h2, h3⟩)
            · by_cases hji' : j = i
              · exact (hi (hji' ▸ h1)).elim
              · rcases hentj j e' h2 with ⟨nb, us, h5, h6⟩ | h5
                · exact (hi ((hp.use i j _ _ o _ _ _ _ _ _ _ _ ho htop h5 (by omega) b hus).2 hn h3 L hL h1)).elim
                · rw [h5] at h3; simp [e0] at h3)
    refine hr.mono fun v w' hpost => ?_
    obtain ⟨Z', β', g', he, hβ, hkd⟩ := h.g.put f2 hpost
    obtain ⟨q1, q2⟩ := ht1 (fun t => if o.dst = some t then e.res else tm t) e.res (by unfold resI; rw [hx]) (fun t => rfl)
    refine ⟨_, _, Z', β', ⟨g'.mono (fun b hb => (hcrnew b).2 hb) (fun b hb => ?_) (fun b hb => ?_) (fun b hb => rfl) (fun t => .inl rfl), q1, q2, fun b hb => ?_, fun b hb => ?_, fun j hj => ?_, hc0, hc1⟩, ⟨he, fun b hb => hβ b (.inl hb), hkd⟩⟩
    · rcases (hcrnew b).1 hb.1 with h1 | h1
      · exact .inl ⟨⟨h1, hb.2.1, fun ⟨j, e', k1, k2⟩ => hb.2.2 ⟨j, e', .inl k1, k2⟩⟩, fun hk' => hb.2.2 ⟨i, e, .inr rfl, hx, hk'⟩⟩
      · exact .inr h1
    · rcases hb with (h1 | ⟨j, e', k1, k2⟩) | h1
      · exact .inl h1
      · exact .inr ⟨j, e', .inl k1, k2⟩
      · exact .inr ⟨i, e, .inr rfl, hx, h1⟩
    · rcases hb with h1 | ⟨j, e', h1 | rfl, h2, h3⟩
      · exact (hcrnew b).2 (.inl (h.f b (.inl h1)))
      · exact (hcrnew b).2 (.inl (h.f b (.inr ⟨j, e', h1, h2, h3⟩)))
      · rw [hx] at h2; simp at h2; subst h2
        exact (hcrnew b).2 (hfr b h3)
    · obtain ⟨j, e', h1 | rfl, h2, h3⟩ := hb
      · exact (hcrnew b).2 (.inl (h.k b ⟨j, e', h1, h2, h3⟩))
      · rw [hx] at h2; simp at h2; subst h2
        exact (hcrnew b).2 (.inl (hk b h3))
    · rcases hj with hj | rfl
      · exact h.lt j hj
      · exact hil

def Ld (listed : Array Bool) (i : Nat) : Prop := listed[i]? = some true
theorem mem_ready {ops : Array Oper} {listed : Array Bool} {i : Nat} (h : i ∈ Region.ready .any ops listed) : i < ops.size ∧ listed.getD i true = false ∧ ∃ o, ops[i]? = some o ∧ ∀ e ∈ o.after, Region.binds .any e = true → Ld listed e.on := by
  unfold Region.ready at h
  rw [List.mem_filter, List.mem_range] at h
  obtain ⟨h1, h2⟩ := h
  simp only [Bool.and_eq_true, Bool.not_eq_true'] at h2
  have ho : ops[i]? = some ops[i] := Array.getElem?_eq_getElem h1
  refine ⟨h1, h2.1, ops[i], ho, fun e he hb => ?_⟩
  have h3 := h2.2
  rw [ho] at h3
  simp only [Option.map_some, Option.getD_some] at h3
  rw [Array.all_eq_true'] at h3
  have h4 := h3 e he
  rw [hb] at h4
  simp only [Bool.not_true, Bool.false_or] at h4
  unfold Ld
  rw [Array.getD_eq_getD_getElem?] at h4
  cases hq : listed[e.on]? with
  | none => rw [hq] at h4; simp at h4
  | some v => rw [hq] at h4; simp at h4; rw [h4]
theorem ready_of {ops : Array Oper} {listed : Array Bool} {i : Nat} {o : Oper} (ho : ops[i]? = some o) (hl : listed.size = ops.size) (hi : ¬ Ld listed i) (he : ∀ e ∈ o.after, Region.binds .any e = true → Ld listed e.on) : i ∈ Region.ready .any ops listed := by
  have h1 : i < ops.size := (Array.getElem?_eq_some_iff.1 ho).1
  unfold Region.ready
  rw [List.mem_filter, List.mem_range]
  refine ⟨h1, ?_⟩
  rw [ho]
  simp only [Bool.and_eq_true, Bool.not_eq_true', Option.map_some, Option.getD_some]
  refine ⟨?_, ?_⟩
  · rw [Array.getD_eq_getD_getElem?, Array.getElem?_eq_getElem (by omega)]
    simp only [Option.getD_some]
    cases hq : listed[i]'(by omega) with
    | false => rfl
    | true => exact (hi (by unfold Ld; rw [Array.getElem?_eq_getElem (by omega), hq])).elim
  · rw [Array.all_eq_true']
    intro e he'
    cases hb : Region.binds .any e with
    | false => rfl
    | true =>
      have := he e he' hb
      unfold Ld at this
      simp [Array.getD_eq_getD_getElem?, this]
theorem ready_nil {ops : Array Oper} {listed : Array Bool} (hl : listed.size = ops.size) (hedge : ∀ (i : Nat) (o : Oper), ops[i]? = some o → ∀ e ∈ o.after, Region.binds .any e = true → e.on < i) (h : Region.ready .any ops listed = []) : ∀ i, i < ops.size → Ld listed i := by
  intro i
  induction i using Nat.strongRecOn with
  | _ i ih =>
    intro hi
    refine Classical.byContradiction fun hn => ?_
    have := ready_of (Array.getElem?_eq_getElem hi) hl hn fun e he hb => by
      have hlt := hedge i _ (Array.getElem?_eq_getElem hi) e he hb
      exact ih e.on hlt (by omega)
    rw [h] at this
    simp at this
theorem Ld_set {listed : Array Bool} {i : Nat} (hi : i < listed.size) (j : Nat) : Ld (listed.setIfInBounds i true) j ↔ Ld listed j ∨ j = i := by
  unfold Ld
  rw [Array.getElem?_setIfInBounds]
  by_cases h : i = j
  · subst h; simp [hi]
  · simp [h, Ne.symm h]
def cnt (listed : Array Bool) : Nat := (listed.toList.filter (!·)).length
theorem cnt_set {listed : Array Bool} {i : Nat} (hi : i < listed.size) (h : ¬ Ld listed i) : cnt (listed.setIfInBounds i true) + 1 = cnt listed := by
  obtain ⟨l⟩ := listed
  have key : ∀ (l : List Bool) (i : Nat), i < l.length → l[i]? ≠ some true → ((l.set i true).filter (!·)).length + 1 = (l.filter (!·)).length := fun l => by
    induction l with
    | nil => intro i h; simp at h
    | cons x l ih =>
      intro i h1 h2
      cases i with
      | zero =>
        cases x
        · simp
        · simp at h2
      | succ i =>
        have := ih i (by simpa using h1) (by simpa using h2)
        cases x <;> simp_all
  have := key l i (by simpa using hi) (by simpa [Ld] using h)
  simpa [cnt] using this
theorem cnt_zero {listed : Array Bool} (h : cnt listed = 0) : ∀ i, i < listed.size → Ld listed i := fun i hi => by
  unfold cnt at h
  have h' := List.eq_nil_of_length_eq_zero h
  rw [List.filter_eq_nil_iff] at h'
  unfold Ld
  rw [Array.getElem?_eq_getElem hi]
  have := h' listed[i] (by simp)
  cases hq : listed[i]
  · rw [hq] at this; simp at this
  · rfl
theorem Sim.drawn {Z : Zone} {β : Nat → Value} {a : Act} {w : World} {n : Nat} (hs : Sim E S Z β a w) : Sim E S Z β a { w with drawn := n } := by
  have hb : Below w.heap.size w { w with drawn := n } := ⟨rfl, rfl, rfl, Nat.le_refl _, fun _ _ => rfl⟩
  exact ⟨⟨hs.wr.still hb, hs.z0, hs.zn, hs.tsz, fun t => (hs.tr t).still hb hs.wr.zin, hs.df.kept rfl ⟨Nat.le_refl _, fun _ h => h⟩⟩, hs.fl, hs.dl⟩
theorem any_sound (hT : TOk E.P E.tt) (hp : Plan E S ops es tr) {Z0 : Zone} {β0 : Nat → Value} {w0 : World} {K : St → Prop} {Q : Exit → Act → World → Prop} (hn : E.n0 ≤ S.bx.length) (hd0 : ∀ b ∈ S.dead, b < S.bx.length)
    (hend : (es.length = ops.size ∧ K (fin tr (fS S ops.toList es es.length))) ∨ (∃ o, es.length + 1 = ops.size ∧ ops[es.length]? = some o ∧ guardV (ops.toList.map (·.dst)) (fS S ops.toList es es.length).tm o.guard true ∧ OpK E o (fin tr (fS S ops.toList es es.length)) K))
    (hq : ∀ a' w', After E E.n0 Z0 β0 w0 K a' w' → Q .normal a' w') :
    ∀ (fuel : Nat) (listed : Array Bool) (tm : Nat → AV) (bx : Nat → Option Bx) (Z : Zone) (β : Nat → Value) (a : Act) (w : World), cnt listed = fuel → listed.size = ops.size → Closed ops (Ld listed) → InvL E S ops es tr (Ld listed) tm bx Z β a w → Evo S.bx.length Z0 β0 Z β w0 w →
      wpAnyIn (fenceR E.rd) 0 E.P .any ops Q fuel listed a w := by
  intro fuel
  have hlen : (S.bx.length) ≤ (fS S ops.toList es es.length).bx.length := fS_len_le (S := S) (l := ops.toList) (es := es) (Nat.zero_le _)
  have fine : ∀ (listed : Array Bool) (tm : Nat → AV) (bx : Nat → Option Bx) (Z : Zone) (β : Nat → Value) (a : Act) (w : World), listed.size = ops.size → InvL E S ops es tr (Ld listed) tm bx Z β a w → Evo S.bx.length Z0 β0 Z β w0 w → (∀ i, i < ops.size → Ld listed i) → Q .normal a w := fun listed tm bx Z β a w hl hI hE hall => by
    rcases hend with ⟨h1, h2⟩ | ⟨o, h1, _⟩
    · have hs := hI.done hp hd0 fun j hj => hall j (by omega)
      exact hq _ _ ⟨_, Z, β, hs, hE.mono hn, by rw [(fin_nt _ _).2.2.2.2]; exact Nat.le_trans hn hlen, h2⟩
    · have := hI.lt es.length (hall es.length (by omega))
      omega
  induction fuel with
  | zero =>
    intro listed tm bx Z β a w hc hl hcl hI hE
    have hall : ∀ i, i < ops.size → Ld listed i := fun i hi => cnt_zero hc i (by omega)
    refine ⟨?_, fine listed tm bx Z β a w hl hI hE hall⟩
    refine List.eq_nil_iff_forall_not_mem.2 fun i hi => ?_
    obtain ⟨h1, h2, _⟩ := mem_ready hi
    have := hall i h1
    unfold Ld at this
    simp [Array.getD_eq_getD_getElem?, this] at h2
  | succ fuel ih =>
    intro listed tm bx Z β a w hc hl hcl hI hE
    refine ⟨fun h => fine listed tm bx Z β a w hl hI hE (ready_nil hl hp.edge h), fun i hi => ?_⟩
    obtain ⟨h1, h2, o, ho, he⟩ := mem_ready hi
    have hni : ¬ Ld listed i := fun h => by
      unfold Ld at h
      simp [Array.getD_eq_getD_getElem?, h] at h2
    have hset : ∀ j, Ld (listed.setIfInBounds i true) j ↔ Ld listed j ∨ j = i := Ld_set (by omega)
    have hfun : Ld (listed.setIfInBounds i true) = fun j => Ld listed j ∨ j = i := funext fun j => propext (hset j)
    have hcl' : Closed ops (fun j => Ld listed j ∨ j = i) := fun j oj hj hoj e he' hb => by
      rcases hj with hj | rfl
      · exact .inl (hcl j oj hj hoj e he' hb)
      · rw [ho] at hoj
        injection hoj with hoj
        subst hoj
        exact .inl (he e he' hb)
    have hc' : cnt (listed.setIfInBounds i true) = fuel := by have := cnt_set (by omega) hni; omega
    have hl' : (listed.setIfInBounds i true).size = ops.size := by simpa using hl
    unfold wpOpIn
    rw [ho]
    simp only
    by_cases hie : i < es.length
    · obtain ⟨x, hx⟩ : ∃ x, es[i]? = some x := ⟨_, List.getElem?_eq_getElem hie⟩
      obtain ⟨hw, hstep⟩ := hI.step hT hp hcl hni hcl' ho hx
      rw [hw]
      cases x with
      | none =>
        simp only [Option.isSome_none, Bool.false_eq_true, if_false]
        obtain ⟨tm', bx', hI'⟩ := hstep
        refine ⟨fun _ _ => trivial, ?_⟩
        exact ih _ tm' bx' Z β _ _ hc' hl' (by rw [hfun]; exact hcl') (by rw [hfun]; exact hI') hE
      | some e =>
        simp only [Option.isSome_some, if_true]
        refine (hstep.wp fun v w' ⟨tm', bx', Z', β', hI', hE'⟩ => ?_)
        exact ih _ tm' bx' Z' β' _ _ hc' hl' (by rw [hfun]; exact hcl') (by rw [hfun]; exact hI') (hE.trans hE')
    · -- the last one
      rcases hend with ⟨h3, _⟩ | ⟨o', h3, h4, h5, h6⟩
      · omega
      · have hik : i = es.length := by omega
        subst hik
        rw [ho] at h4
        injection h4 with h4
        subst h4
        have hall : ∀ j, j < es.length → Ld listed j := fun j hj => by
          rcases hp.last es.length h3 rfl _ hcl' j hj _ hcl' (.inr rfl) with h | h
          · exact h
          · omega
        have hs := hI.done hp hd0 hall
        have hw : Region.wanted o (yielded ops a.tmps) = true := guardV_spec (tm := look (fS S ops.toList es es.length).tm) h5 fun j want t _ _ => ⟨fun b hb => by
          have := hs.tr t; rw [(fin_nt _ _).2.1, hb] at this; exact this.bool_inv, fun hb => by have := hs.tr t; rw [(fin_nt _ _).2.1, hb] at this; exact this.und_inv⟩
        rw [hw]
        simp only [if_true]
        have hall' : ∀ j, j < ops.size → Ld (listed.setIfInBounds es.length true) j := fun j hj => by
          rw [hset]
          by_cases hj' : j < es.length
          · exact .inl (hall j hj')
          · exact .inr (by omega)
        have hnil : Region.ready .any ops (listed.setIfInBounds es.length true) = [] := List.eq_nil_iff_forall_not_mem.2 fun j hj => by
          obtain ⟨k1, k2, _⟩ := mem_ready hj
          have := hall' j k1
          unfold Ld at this
          simp only [Array.getD_eq_getD_getElem?] at k2
          rw [this] at k2
          simp at k2
        refine ((h6 Z β a w hs).wp fun v w' hA => ?_)
        have hQ : Q .normal (a.put o.dst v) w' := hq _ _ (hA.trans (hE.mono hn))
        cases fuel with
        | zero => exact ⟨hnil, hQ⟩
        | succ n => exact ⟨fun _ => hQ, fun j hj => by rw [hnil] at hj; simp at hj⟩
theorem AWP.draw (hT : TOk E.P E.tt) (hm : E.P.follows .mixedOrders = true) {id : Nat} {Q : Exit → St → Prop} (hn : E.n0 ≤ S.bx.length)
    (h : Trace E (ops.toList.map (·.dst)) (fun tr => drawOk ops tr = true) (fun S' => Q .normal S') 0 ops.toList S []) : AWP E (.region id ops true) S Q := fun Z β a w hs => by
  obtain ⟨es, tr, h0, h1, h2, h3⟩ := Trace.det _ _ _ h
  have h1' : es.length ≤ ops.size := by simpa using h1
  have h2' : ∀ i o x t, ops[i]? = some o → es[i]? = some x → tr[i]? = some t → FactX E (ops.toList.map (·.dst)) (fS S ops.toList es i) (fin (tr.take i) (fS S ops.toList es i)) o x t := fun i o x t ho hx ht => h2 i o x t (by simpa using ho) hx ht
  refine wpIn_region_any hm ?_
  have hs1 := hs.drawn (n := w.drawn + 1)
  have he1 : Evo S.bx.length Z β Z β w { w with drawn := w.drawn + 1 } := ⟨ext_of_below ⟨rfl, rfl, rfl, Nat.le_refl _, fun _ _ => rfl⟩ hs.wr.zin, fun _ _ => rfl, ⟨Nat.le_refl _, fun _ h => h⟩⟩
  have hfun : Ld (Array.replicate ops.size false) = fun _ => False := funext fun j => propext ⟨fun h => by
    unfold Ld at h
    rw [Array.getElem?_replicate] at h
    split at h <;> simp at h, fun h => h.elim⟩
  have hcnt : cnt (Array.replicate ops.size false) = ops.size := by simp [cnt]
  have hcl : Closed ops (fun _ => False) := fun i o hi => hi.elim
  rcases h3 with ⟨e1, hdr, hk⟩ | ⟨o, e1, e2, e3, hdr, e4⟩
  · have hp : Plan E S ops es tr := Plan.mk' (tail := []) h1' h0 h2' (.inl ⟨rfl, by simpa using e1⟩) (by simpa using hdr)
    exact any_sound hT hp hn hs.dl (.inl ⟨by simpa using e1, hk⟩) (K := fun S' => Q .normal S') (fun a' w' hA => hA) ops.size _ _ _ Z β a _ hcnt (by simp) (by rw [hfun]; exact hcl) (by rw [hfun]; exact .start hs1) he1
  · have hp : Plan E S ops es tr := Plan.mk' (tail := [.st]) h1' h0 h2' (.inr rfl) (by simpa using hdr)
    exact any_sound hT hp hn hs.dl (.inr ⟨o, by simpa using e1, by simpa using e2, e3, e4⟩) (K := fun S' => Q .normal S') (fun a' w' hA => hA) ops.size _ _ _ Z β a _ hcnt (by simp) (by rw [hfun]; exact hcl) (by rw [hfun]; exact .start hs1) he1
end
end Go.Vam

/- An abstract machine over data (part 12): the machine run. -/
namespace Go.Vam
open Go.RowKit
set_option linter.unusedVariables false
set_option linter.unusedSimpArgs false

/-! ### 1. What is still to be done -/
abbrev Dr := Option (Array Oper × List TrK)
inductive Fr where
  | code (c : Code)
  | ops (m : Nat) (l : List Oper) (ds : List (Option Nat)) (dr : Dr)
  | blk (id : Nat)
  | lp (R : St → Prop)
def OpsM (E : En) (ds : List (Option Nat)) (m : Nat) (l : List Oper) (S : St) (K : St → Prop) : Dr → Prop
  | none => OpsK E ds m l S K
  | some (all, acc) => Trace E ds (fun tr => drawOk all tr = true) (fun S' => E.n0 ≤ S'.bx.length → K S') m l S acc
/-- What must be so of a state that comes to this place. -/
def GoK (E : En) (Q : Exit → St → Prop) : List Fr → Exit → St → Prop
  | [], e, S => Q e S
  | .blk id :: ks, e, S => match e with
    | .exit id' => if id' = id then GoK E Q ks .normal S else GoK E Q ks (.exit id') S
    | e => GoK E Q ks e S
  | .lp R :: ks, e, S => match e with
    | .normal => R S
    | e => GoK E Q ks e S
  | .code c :: ks, e, S => match e with
    | .normal => AWP E c S (GoK E Q ks)
    | e => GoK E Q ks e S
  | .ops m l ds dr :: ks, e, S => match e with
    | .normal => OpsM E ds m l S (GoK E Q ks .normal) dr
    | e => GoK E Q ks e S
def Go (E : En) (Q : Exit → St → Prop) (ks : List Fr) (S : St) : Prop := E.n0 ≤ S.bx.length → GoK E Q ks .normal S

/-! ### 2. Operations that tell all by themselves -/
def memB (b : Nat) : List Nat → Bool
  | [] => false
  | x :: l => if b = x then true else memB b l
theorem memB_iff (b : Nat) (l : List Nat) : memB b l = true ↔ b ∈ l := by
  induction l with
  | nil => simp [memB]
  | cons x l ih =>
    simp only [memB, List.mem_cons]
    split
    · rename_i h; simp [h]
    · rename_i h; simp [h, ih]
theorem memB_not {b : Nat} {l : List Nat} (h : ¬ memB b l = true) : b ∉ l := fun hb => h ((memB_iff b l).2 hb)
def hasN {α : Type} : List α → Nat → Bool
  | _, 0 => true
  | [], _ + 1 => false
  | _ :: l, n + 1 => hasN l n
theorem hasN_spec {α : Type} : ∀ (l : List α) (n : Nat), hasN l n = true → n ≤ l.length
  | _, 0, _ => Nat.zero_le _
  | [], _ + 1, h => by simp [hasN] at h
  | _ :: l, n + 1, h => by simp only [hasN] at h; have := hasN_spec l n h; simp; omega
def takeN {α : Type} : Nat → List α → List α
  | 0, _ => []
  | _ + 1, [] => []
  | n + 1, x :: l => x :: takeN n l
theorem takeN_eq {α : Type} (n : Nat) (l : List α) : takeN n l = l.take n := by
  induction n generalizing l with
  | zero => simp [takeN]
  | succ n ih => cases l <;> simp [takeN, ih]
def dropN {α : Type} : Nat → List α → List α
  | 0, l => l
  | _ + 1, [] => []
  | n + 1, _ :: l => dropN n l
theorem dropN_eq {α : Type} (n : Nat) (l : List α) : dropN n l = l.drop n := by
  induction n generalizing l with
  | zero => simp [dropN]
  | succ n ih => cases l <;> simp [dropN, ih]
def nthC : List C → Nat → C
  | [], _ => .sc (.bool false)
  | x :: _, 0 => x
  | _ :: l, n + 1 => nthC l n
theorem nthC_eq (l : List C) (n : Nat) : nthC l n = l.getD n (.sc (.bool false)) := by
  induction l generalizing n with
  | nil => rfl
  | cons x l ih => cases n <;> simp [nthC, ih]
def nthX {α : Type} : List α → Nat → Option α
  | [], _ => none
  | x :: _, 0 => some x
  | _ :: l, n + 1 => nthX l n
theorem nthX_eq {α : Type} (l : List α) (n : Nat) : nthX l n = l[n]? := by
  induction l generalizing n with
  | nil => rfl
  | cons x l ih => cases n <;> simp [nthX, ih]
def allB {α : Type} (f : α → Bool) : List α → Bool
  | [] => true
  | x :: l => if f x = true then allB f l else false
theorem allB_eq {α : Type} (f : α → Bool) (l : List α) : allB f l = l.all f := by
  induction l with
  | nil => rfl
  | cons x l ih => simp only [allB, List.all_cons]; split <;> simp_all
def mapN {α β : Type} (f : α → β) : List α → List β
  | [] => []
  | x :: l => f x :: mapN f l
theorem mapN_eq {α β : Type} (f : α → β) (l : List α) : mapN f l = l.map f := by
  induction l with
  | nil => rfl
  | cons x l ih => simp [mapN, ih]
def partsN (tm : List (Nat × AV)) : List (Nat × Operand) → List (Nat × AV)
  | [] => []
  | (i, x) :: l => (i, evT tm x) :: partsN tm l
theorem partsN_eq (tm : List (Nat × AV)) (l : List (Nat × Operand)) : partsN tm l = l.map fun p => (p.1, evT tm p.2) := by
  induction l with
  | nil => rfl
  | cons x l ih => cases x; simp [partsN, ih]
def okN (ag : Bool) (n : Nat) : Bool := match ag with | true => true | false => n == 1
theorem okN_spec {ag : Bool} {n : Nat} (h : okN ag n = true) : ag = false → n = 1 := fun e => by subst e; simpa [okN] using h
def aggOr (ag : Bool) (x y : AV) : AV := match ag with | true => x | false => y
theorem aggOr_eq (ag : Bool) (x y : AV) : aggOr ag x y = if ag then x else y := by cases ag <;> rfl
def deadFree (dead : List Nat) : List Nat → Bool
  | [] => true
  | b :: l => if memB b dead = true then false else deadFree dead l
theorem deadFree_spec {dead : List Nat} : ∀ {l : List Nat}, deadFree dead l = true → ∀ b ∈ l, b ∉ dead
  | [], _, b, hb => by simp at hb
  | x :: l, h, b, hb => by
    simp only [deadFree] at h
    split at h
    · simp at h
    · rename_i hx
      rcases List.mem_cons.1 hb with rfl | hb
      · exact memB_not hx
      · exact deadFree_spec h b hb
def detE (tt : TT) (op : Op) (S : St) : Option Eff :=
  match op with
  | .move x => some { res := evT S.tm x }
  | .assign x => some { res := evT S.tm x }
  | .pick c x y => match evT S.tm c with
    | .c (.sc (.bool t)) => some { res := if t = true then evT S.tm x else evT S.tm y }
    | _ => none
  | .binOp op t x y _ => match binV op (evT S.tm x) (evT S.tm y) with
    | some v => some { res := .c (.sc v) }
    | none => match binB op (evT S.tm x) (evT S.tm y), tt t with
      | some b, some i => if i.bl = true then some { res := .c (.sc (.bool b)) } else none
      | _, _ => none
  | .unOp .not _ x => match evT S.tm x with
    | .c (.sc (.bool p)) => some { res := .c (.sc (.bool (!p))) }
    | _ => none
  | .unOp .neg _ x => match evT S.tm x with
    | .c (.sc (.int k p)) => some { res := .c (.sc (.int k (k.wrap (-p)))) }
    | _ => none
  | .extract x i => match evT S.tm x with
    | .tup xs => match nthX xs i with
      | some r => some { res := r }
      | none => none
    | _ => none
  | .field t x f => match evT S.tm x, tt t with
    | .agg cs, some i => match nthX i.fs f with
      | some (off, _, n, ag) => if hasN cs (off + n) = true then if okN ag n = true then some { res := aggOr ag (.agg (takeN n (dropN off cs))) (.c (nthC cs off)) } else none else none
      | none => none
    | _, _ => none
  | .fieldAddr t x f => match tt t with
    | some i => match nthX i.fs f with
      | some (off, _, _, _) => match evT S.tm x with
        | .pt cs => some { res := .pt (dropN off cs) }
        | .ptr b o => some { res := .ptr b (o + off) }
        | .optr b o => some { res := .optr b (o + off) }
        | _ => none
      | none => none
    | none => none
  | .load t x => match tt t with
    | some i => if okN i.ag i.n = true then match evT S.tm x with
      | .pt cs => if hasN cs i.n = true then match i.n with
        | 0 => none
        | _ + 1 => some { res := aggOr i.ag (.agg (takeN i.n cs)) (.c (nthC cs 0)) }
        else none
      | .ptr b off => if memB b S.dead = true then none else match nthB S.bx b with
        | some (.cells cs) => if hasN cs (off + i.n) = true then match i.n, i.ag with
          | 0, _ => none
          | _ + 1, true => if allB isC (takeN i.n (dropN off cs)) = true then some { res := .agg (mapN toC (takeN i.n (dropN off cs))) } else none
          | _ + 1, false => some { res := nth cs off }
          else none
        | _ => none
      | _ => none
      else none
    | none => none
  | .nilCheck x => match evT S.tm x with
    | .pt cs => some { res := .pt cs }
    | .ptr b off => some { res := .ptr b off }
    | _ => none
  | .alloc t => match tt t with
    | some i => match i.zero with
      | [] => none
      | _ :: _ => some { res := .ptr S.bx.length 0, nw := some (.cells i.zero) }
    | none => none
  | .box _ x => match stOf (nthB S.bx) S.dead (evT S.tm x) with
    | some cs => some { res := .ptr S.bx.length 0, nw := some (.cells cs) }
    | none => none
  | .build t parts => match tt t with
    | some i => match i.zero, i.fs with
      | _ :: _, _ :: _ => match fillC (placeOf i.fs) (partsN S.tm parts.toList) (zeroO i.zero) with
        | some f => match allC f with
          | some r => some { res := .agg r }
          | none => none
        | none => none
      | _ :: _, [] => match i.ar with
        | some (_, sz, _, _) => match fillC (placeA sz) (partsN S.tm parts.toList) (zeroO i.zero) with
          | some f => match allC f with
            | some r => some { res := .agg r }
            | none => none
          | none => none
        | none => none
      | _, _ => none
    | none => none
  | .buildSlice t n parts => match tt t with
    | some i => match i.sl with
      | some e => match tt e with
        | some ie => match ie.zero, ie.n with
          | _ :: _, m + 1 => match rowsOf (m + 1) 0 (partsN S.tm parts.toList) with
            | some rs => if rs.length = n ∧ n * (m + 1) ≤ 16777216 then some { res := .own S.bx.length, nw := some (.rows e (m + 1) rs) } else none
            | none => none
          | _, _ => none
        | none => none
      | none => none
    | none => none
  | .makeFunc (.func g) first captured => match first.toList with
    | [] => match capsOf (nthB S.bx) (mapN (evT S.tm) captured.toList) with
      | some (css, fs) => if deadFree S.dead fs = true then some { res := .c (.fn g css), frz := fs } else none
      | none => none
    | _ => none
  | .call { callee := .builtin .len, args := as, argTypes := ts } => match as.toList, ts.toList with
    | [x], [t] => match tt t with
      | some i => match evT S.tm x, i.sl, i.str with
        | .c (.sl rows), some _, _ => some { res := .c (.sc (.int .i64 rows.length)) }
        | .nil, some _, _ => some { res := .c (.sc (.int .i64 0)) }
        | .own b, some _, _ => if memB b S.dead = true then none else match nthB S.bx b with
          | some (.rows _ _ rs) => some { res := .c (.sc (.int .i64 rs.length)) }
          | _ => none
        | .c (.sc (.string s)), _, true => some { res := .c (.sc (.int .i64 s.size)) }
        | _, _, _ => none
      | none => none
    | _, _ => none
  | _ => none

theorem detE_sound {E : En} {o : Oper} {S : St} {e : Eff} (h : detE E.tt o.op S = some e) : LoclS E o S e := by
  unfold LoclS Locl
  cases hop : o.op with
  | move x => rw [hop] at h; simp only [detE, Option.some.injEq] at h; exact h
  | assign x => rw [hop] at h; simp only [detE, Option.some.injEq] at h; exact h
  | pick c x y =>
    rw [hop] at h
    simp only [detE] at h ⊢
    split at h
    · rename_i t ht
      simp only [ht]
      exact Option.some.inj h
    · simp at h
  | binOp op t x y u =>
    rw [hop] at h
    simp only [detE] at h ⊢
    split at h
    · rename_i v hv
      simp only [hv]
      exact Option.some.inj h
    · rename_i hv
      simp only [hv]
      split at h
      · rename_i b i hb hi
        split at h
        · rename_i hbl
          simp only [hb]
          exact ⟨⟨i, hi, hbl⟩, Option.some.inj h⟩
        · simp at h
      · simp at h
  | unOp op t x =>
    rw [hop] at h
    cases op <;> simp only [detE] at h ⊢ <;> first | (simp at h; done) | skip
    all_goals
      split at h
      · rename_i hx
        simp only [hx]
        exact Option.some.inj h
      · simp at h
  | extract x i =>
    rw [hop] at h
    simp only [detE] at h ⊢
    split at h
    · rename_i xs hx
      split at h
      · rename_i r hr
        rw [nthX_eq] at hr
        simp only [hx]
        exact ⟨r, hr, Option.some.inj h⟩
      · simp at h
    · simp at h
  | field t x f =>
    rw [hop] at h
    simp only [detE] at h ⊢
    split at h
    · rename_i cs i hx hi
      split at h
      · rename_i off ty n ag hf
        rw [nthX_eq] at hf
        split at h
        · rename_i hl
          split at h
          · rename_i hk
            simp only [hx]
            refine ⟨i, off, ty, n, ag, hi, hf, hasN_spec _ _ hl, okN_spec hk, ?_⟩
            rw [← Option.some.inj h, aggOr_eq, takeN_eq, dropN_eq, nthC_eq]
          · simp at h
        · simp at h
      · simp at h
    · simp at h
  | fieldAddr t x f =>
    rw [hop] at h
    simp only [detE] at h ⊢
    split at h
    · rename_i i hi
      split at h
      · rename_i off ty n ag hf
        rw [nthX_eq] at hf
        refine ⟨i, off, ty, n, ag, hi, hf, ?_⟩
        split at h <;> first | (simp at h; done) | skip
        all_goals
          rename_i hx
          simp only [hx]
          rw [← Option.some.inj h]
          try rw [dropN_eq]
      · simp at h
    · simp at h
  | load t x =>
    rw [hop] at h
    simp only [detE] at h ⊢
    split at h
    · rename_i i hi
      split at h
      · rename_i hk
        refine ⟨i, hi, okN_spec hk, ?_⟩
        split at h
        · rename_i cs hx
          split at h
          · rename_i hl
            split at h
            · simp at h
            · rename_i m hm
              simp only [hx]
              refine ⟨by omega, hasN_spec _ _ hl, ?_⟩
              rw [← Option.some.inj h, aggOr_eq, takeN_eq, nthC_eq, hm]
          · simp at h
        · rename_i b off hx
          split at h
          · simp at h
          · rename_i hd
            split at h
            · rename_i cs hb
              split at h
              · rename_i hl
                simp only [hx, hb]
                have hl' := hasN_spec _ _ hl
                split at h
                · simp at h
                · rename_i m hm hag
                  split at h
                  · rename_i ha
                    refine ⟨by omega, memB_not hd, hl', fun _ => ?_, ?_⟩
                    · rw [allB_eq, takeN_eq, dropN_eq] at ha
                      exact ha
                    · rw [← Option.some.inj h, hag, mapN_eq, takeN_eq, dropN_eq]
                      rfl
                  · simp at h
                · rename_i m hm hag
                  refine ⟨by omega, memB_not hd, hl', fun ha => by rw [hag] at ha; simp at ha, ?_⟩
                  rw [← Option.some.inj h, hag]
                  rfl
              · simp at h
            · simp at h
        · simp at h
      · simp at h
    · simp at h
  | nilCheck x =>
    rw [hop] at h
    simp only [detE] at h ⊢
    split at h <;> first | (simp at h; done) | skip
    all_goals
      rename_i hx
      simp only [hx]
      exact Option.some.inj h
  | alloc t =>
    rw [hop] at h
    simp only [detE] at h ⊢
    split at h
    · rename_i i hi
      split at h
      · simp at h
      · rename_i z zs hz
        exact ⟨i, hi, by rw [hz]; simp, Option.some.inj h⟩
    · simp at h
  | box t x =>
    rw [hop] at h
    simp only [detE] at h ⊢
    split at h
    · rename_i cs hc
      exact ⟨cs, hc, Option.some.inj h⟩
    · simp at h
  | build t parts =>
    rw [hop] at h
    simp only [detE] at h ⊢
    split at h
    · rename_i i hi
      split at h
      · rename_i z zs f0 fs0 hz hf0
        split at h
        · rename_i f hf
          split at h
          · rename_i r hr
            rw [partsN_eq] at hf
            exact .inr ⟨i, f, r, hi, by rw [hz]; simp, by rw [hf0]; simp, hf, hr, Option.some.inj h⟩
          · simp at h
        · simp at h
      · rename_i z zs hz hf0
        split at h
        · rename_i e sz n ag har
          split at h
          · rename_i f hf
            split at h
            · rename_i r hr
              rw [partsN_eq] at hf
              exact .inl ⟨i, e, sz, n, ag, f, r, hi, by rw [hz]; simp, har, hf, hr, Option.some.inj h⟩
            · simp at h
          · simp at h
        · simp at h
      · simp at h
    · simp at h
  | buildSlice t n parts =>
    rw [hop] at h
    simp only [detE] at h ⊢
    split at h
    · rename_i i hi
      split at h
      · rename_i e' hsl
        split at h
        · rename_i ie hie
          split at h
          · rename_i z zs m hz hm
            split at h
            · rename_i rs hr
              split at h
              · rename_i hc
                rw [partsN_eq] at hr
                refine ⟨i, e', ie, rs, hi, hsl, hie, by rw [hz]; simp, by omega, by rw [hm]; exact hr, hc.1, by rw [hm]; exact hc.2, ?_⟩
                rw [hm]
                exact Option.some.inj h
              · simp at h
            · simp at h
          · simp at h
        · simp at h
      · simp at h
    · simp at h
  | makeFunc fn first captured =>
    rw [hop] at h
    cases fn <;> simp only [detE] at h ⊢ <;> first | (simp at h; done) | skip
    split at h
    · rename_i hf
      split at h
      · rename_i css fs hc
        split at h
        · rename_i hd
          rw [mapN_eq] at hc
          exact ⟨by simpa using hf, css, fs, hc, deadFree_spec hd, Option.some.inj h⟩
        · simp at h
      · simp at h
    · simp at h
  | call c =>
    rw [hop] at h
    obtain ⟨callee, as, ts⟩ := c
    cases callee with
    | builtin bi =>
      cases bi <;> simp only [detE] at h ⊢ <;> first | (simp at h; done) | skip
      split at h
      · rename_i x t has hts
        split at h
        · rename_i i hi
          have has' : as = #[x] := by apply Array.ext'; simpa using has
          have hts' : ts = #[t] := by apply Array.ext'; simpa using hts
          refine ⟨x, t, i, has', hts', hi, ?_⟩
          split at h
          · rename_i rows _ _ hx hs
            simp only [hx, hs]
            exact ⟨rfl, Option.some.inj h⟩
          · rename_i _ hx hs
            simp only [hx, hs]
            exact ⟨rfl, Option.some.inj h⟩
          · rename_i b _ hx hs
            split at h
            · simp at h
            · rename_i hd
              split at h
              · rename_i _ _ rs hb
                simp only [hx, hs, hb]
                exact ⟨rfl, memB_not hd, Option.some.inj h⟩
              · simp at h
          · rename_i s hx hs
            simp only [hx]
            exact ⟨hs, Option.some.inj h⟩
          · simp at h
        · simp at h
      · simp at h
    | _ => simp only [detE] at h; simp at h
  | _ => rw [hop] at h; simp [detE] at h
end Go.Vam
