/- An abstract machine over data (part 6): what is laid aside, contracts, calls, functions that capture, stores. -/
import Derived.Test.YtncipmjchifcgaaVam5
namespace Go.Vam
open Go.RowKit
set_option linter.unusedVariables false
set_option linter.unnecessarySimpa false
set_option linter.unusedSimpArgs false

/-! ### 1. To lay aside -/
def extent : Option Bx → Nat
  | some (.cells cs) => cs.length
  | some (.rows _ sz rs) => rs.length * sz
  | some (.lp _ _ _ _ _ _ _) => 0
  | none => 0
def ZF (Z : Zone) (β : Nat → Value) (bx : Nat → Option Bx) (frz : List Nat) : Zone := fun a => Z a ∨ (a.spot = none ∧ ∃ b, b ∈ frz ∧ blk (β b) = some a.block ∧ a.off < extent (bx b))
theorem ZF.ext (Z : Zone) (β : Nat → Value) (bx : Nat → Option Bx) (frz : List Nat) (w : World) : Ext Z (ZF Z β bx frz) w w := ⟨fun _ h => .inl h, fun _ _ => rfl⟩

section
variable {P : Program} {tt : TT} {base : Nat} {w0 : World} {Z : Zone} {β : Nat → Value} {cr lv fz : Nat → Prop} {bx : Nat → Option Bx} {nb : Nat} {w : World} {a : Act} {o : Oper}

theorem WR.freeze (hW : WR base w0 Z β cr lv fz bx w) (frz : List Nat) (hl : ∀ b ∈ frz, lv b) : WR base w0 (ZF Z β bx frz) β cr lv (fun b => fz b ∨ b ∈ frz) bx w := by
  refine ⟨hW.below, hW.hbase, fun a ha => ?_, fun a ha => ?_, fun b hb => ?_, hW.dis, hW.sub, hW.oth⟩
  · rcases ha with ha | ⟨_, b, hb, hg, _⟩
    · exact hW.zin a ha
    · obtain ⟨x, hx, hB⟩ := hW.box b (hl b hb)
      exact (hB.blk_base hg).2
  · rcases ha with ha | ⟨h, _⟩
    · exact hW.zsp a ha
    · exact h
  · obtain ⟨x, hx, hB⟩ := hW.box b hb
    refine ⟨x, hx, hB.ext (ZF.ext Z β bx frz w) (fun b h => ⟨h, rfl⟩) (hW.sub b hb) (fun _ _ => rfl) (fun g hg a ha e => ?_) .inl⟩
    rcases ha with ha | ⟨_, b', hb', hg', hoff⟩
    · exact .inl ha
    · refine .inr ?_
      have hbb : b' = b := by
        rcases Nat.decEq b' b with hne | he
        · exact absurd (e ▸ hg') (hW.dis b b' g hb (hl b' hb') (fun h => hne h.symm) hg)
        · exact he
      subst hbb
      refine ⟨.inr hb', ?_, fun e' sz rs hxe => ?_⟩
      · rw [hx] at hoff
        cases x
        · rfl
        · rfl
        · simp [extent] at hoff
      · rw [hx, hxe] at hoff
        exact hoff

theorem ZF_base (hW : WR base w0 Z β cr lv fz bx w) (frz : List Nat) (hl : ∀ b ∈ frz, lv b) : ∀ a, ZF Z β bx frz a → ¬ Z a → base ≤ a.block := fun a h1 h2 => by
  rcases h1 with h1 | ⟨_, b, hb, hg, _⟩
  · exact absurd h1 h2
  · obtain ⟨x, hx, hB⟩ := hW.box b (hl b hb)
    exact (hB.blk_base hg).1
/-- A list of one's own that is laid aside is data. -/
theorem CR.ofOwn {b e sz : Nat} {rs : List (List C)} {frz : List Nat} (hW : WR base w0 Z β cr lv fz bx w) (hlv : lv b) (hb : bx b = some (.rows e sz rs)) (hf : b ∈ frz) : CR (ZF Z β bx frz) w (.sl rs) (β b) := by
  obtain ⟨xx, hxx, hB⟩ := hW.box b hlv
  rw [hb] at hxx
  injection hxx with hxx
  subst hxx
  cases hB with
  | rows e sz rs inner hown hr hc ht hz =>
    rcases hown.2 with ⟨hv, hn⟩ | ⟨g, cap, cur, hv, hbs, hh, hnc, hcm, hcs, htake⟩
    · have h0 : rs = [] := List.eq_nil_of_length_eq_zero hn
      subst h0
      rw [hv]
      exact CR.nil _ _
    · rw [hv]
      refine .sl rs _ cap sz (fun j i => inner.getD (j * sz + i) undef) hnc (by simp only [maxLen] at hcm; omega) (by simp) hr (fun ad hAd j hj i hi => ?_) (fun j row i c h1 h2 => ?_)
      · injection hAd with hAd
        subst hAd
        have hlt : j * sz + i < rs.length * sz := by
          have : j * sz + sz ≤ rs.length * sz := by rw [← Nat.succ_mul]; exact Nat.mul_le_mul_right _ hj
          omega
        have hli : j * sz + i < inner.length := by rw [hown.1]; exact hlt
        refine ⟨?_, ?_⟩
        · rw [add_lit, Nat.zero_add]
          exact .inr ⟨rfl, b, hf, by rw [hv]; rfl, by rw [hb]; exact hlt⟩
        · rw [getD_of (List.getElem?_eq_getElem hli)]
          exact hown.cells (g := g) (by rw [hv]; rfl) _ _ (List.getElem?_eq_getElem hli)
      · have hj := (List.getElem?_eq_some_iff.1 h1).1
        have hi : i < sz := by rw [← hr j row h1]; exact (List.getElem?_eq_some_iff.1 h2).1
        have hlt : j * sz + i < inner.length := by
          rw [hown.1]
          have : j * sz + sz ≤ rs.length * sz := by rw [← Nat.succ_mul]; exact Nat.mul_le_mul_right _ hj
          omega
        rw [getD_of (List.getElem?_eq_getElem hlt)]
        exact (hc j row i c _ h1 h2 (List.getElem?_eq_getElem hlt)).ext (ZF.ext _ _ _ _ _)
/-- A box of data that is laid aside. -/
theorem AR.ofCells {b g : Nat} {cs : List AV} {frz : List Nat} {β' : Nat → Value} {cr' : Nat → Prop} (hW : WR base w0 Z β cr lv fz bx w) (hlv : lv b) (hb : bx b = some (.cells cs)) (hf : b ∈ frz) (hg : β b = .pointer (some ⟨g, 0, none⟩)) (hC : cs.all isC = true) :
    AR (ZF Z β bx frz) w β' cr' (.pt (cs.map toC)) (.pointer (some ⟨g, 0, none⟩)) := by
  obtain ⟨xx, hxx, hB⟩ := hW.box b hlv
  rw [hb] at hxx
  injection hxx with hxx
  subst hxx
  cases hB with
  | cells cs g' arr t hv hg' hh hl hc hz =>
    have hgg : g' = g := by rw [hv] at hg; simpa using hg
    subst hgg
    refine .pt _ _ (fun i => arr.getD i undef) (fun i hi => ?_) (fun i c h1 => ?_)
    · rw [List.length_map] at hi
      rw [add_lit, Nat.zero_add]
      refine ⟨.inr ⟨rfl, b, hf, by rw [hv]; rfl, by rw [hb]; exact hi⟩, ?_⟩
      rw [cell_of_row w g' i arr t (0, 0) hh]
      have : i < arr.size := by omega
      simp [this]
    · rw [List.getElem?_map] at h1
      cases hx : cs[i]? with
      | none => rw [hx] at h1; simp at h1
      | some x =>
        rw [hx] at h1
        simp only [Option.map_some, Option.some.injEq] at h1
        subst h1
        have hlt : i < arr.size := by have := (List.getElem?_eq_some_iff.1 hx).1; omega
        rw [List.all_eq_true] at hC
        exact (toC_sound (hc i x _ hx (by simp [hlt])) (hC x (List.mem_of_getElem? hx))).ext (ZF.ext _ _ _ _ _)

/-! ### 2. Contracts -/
def Enters (P : Program) (f : FuncId) : Prop := ∀ args w, (callFunc f args).run P w = .ok (.enter f args) w
def RetR (base : Nat) (Z : Zone) (w : World) : Ret → Value → Prop
  | .v x, v => AR Z w (fun _ => undef) (fun _ => False) x v
  | .own e sz rs, v => ∃ inner, w.ownsRow base e sz v rs.length inner ∧ (∀ (j : Nat) (row : List C), rs[j]? = some row → row.length = sz) ∧
      (∀ (j : Nat) (row : List C) (i : Nat) (c : C) (u : Value), rs[j]? = some row → row[i]? = some c → inner[j * sz + i]? = some u → CR Z w c u) ∧
      (∀ g, v.ownBlock = some g → ∀ a, Z a → a.block ≠ g)
/-- A call with these arguments gives this, and writes nothing that was there. -/
def Ok (P : Program) (f : FuncId) (args : List AV) (r : Ret) : Prop :=
  Enters P f ∧ ∀ (Z : Zone) (w : World) (vs : Array Value), (∀ a, Z a → a.block < w.heap.size) → (∀ a, Z a → a.spot = none) → vs.size = args.length →
    (∀ (i : Nat) (x : AV) (v : Value), args[i]? = some x → vs[i]? = some v → AR Z w (fun _ => undef) (fun _ => False) x v) →
    Calls P f vs w fun e w' => ∃ (v : Value) (Z' : Zone), e = .returned v ∧ Ext Z Z' w w' ∧ Below w.heap.size w w' ∧ (∀ a, Z' a → a.block < w'.heap.size) ∧ (∀ a, Z' a → a.spot = none) ∧
      (∀ a, Z' a → ¬ Z a → w.heap.size ≤ a.block) ∧ RetR w.heap.size Z' w' r v

def thawF (bx : Nat → Option Bx) : AV → AV
  | .own b => match bx b with
    | some (.rows _ _ rs) => .c (.sl rs)
    | _ => .any
  | .nil => .c (.sl [])
  | .ptr _ _ => .any
  | .optr _ _ => .any
  | .tup _ => .any
  | .clo _ _ _ => .any
  | .yld _ => .any
  | x => x
theorem thaw_AR {x : AV} {v : Value} {frz : List Nat} (hW : WR base w0 Z β cr lv fz bx w) (h : AR Z w β cr x v) (hl : ∀ b ∈ frzOf x, lv b) (hf : ∀ b ∈ frzOf x, b ∈ frz) :
    AR (ZF Z β bx frz) w (fun _ => undef) (fun _ => False) (thawF bx x) v := by
  have he := ZF.ext Z β bx frz w
  cases h with
  | any v => exact .any v
  | und => exact .und
  | c x v h => exact .c x v (h.ext he)
  | agg cs vs hlen h => exact .agg cs vs hlen fun i c v h1 h2 => (h i c v h1 h2).ext he
  | pt cs a vals hc hv => exact .pt cs a vals (fun i hi => ⟨.inl (hc i hi).1, (hc i hi).2⟩) fun i c h1 => (hv i c h1).ext he
  | ptr => exact .any _
  | optr => exact .any _
  | tup => exact .any _
  | clo => exact .any _
  | yld => exact .any _
  | nil => exact .c _ _ (CR.nil _ _)
  | own b hb =>
    have hlv := hl b (by simp [frzOf])
    simp only [thawF]
    split
    · rename_i e sz rs hbx
      exact .c _ _ (CR.ofOwn hW hlv hbx (hf b (by simp [frzOf])))
    · exact .any _

theorem op_callW {θ : AV → AV} (hθ : ∀ x, θ x = thawF bx x ∨ (x = .nil ∧ θ x = .nil)) {fo : Operand} {as : Array Operand} {ats : Array TypeId} {ρ : Operand → AV} {g : FuncId} {caps : List (List C)} {r : Ret} (ho : o.op = .call { callee := .value fo, args := as, argTypes := ats })
    (hW : WR base w0 Z β cr lv fz bx w) (hfo : AR Z w β cr (.c (.fn g caps)) (a.eval fo)) (hA : ∀ x ∈ as, AR Z w β cr (ρ x) (a.eval x)) (hl : ∀ x ∈ as, ∀ b ∈ frzOf (ρ x), lv b)
    (hok : Ok P g ((as.toList.map fun x => θ (ρ x)) ++ caps.map .pt) r) (hnb : ∀ e sz rs, r = .own e sz rs → ¬ cr nb ∧ ¬ fz nb ∧ bx nb = some (.rows e sz rs)) :
    OpRun P o a w (Post base w0 Z β cr lv fz bx nb { res := match r with | .v x => x | .own _ _ _ => .own nb, nw := match r with | .v _ => none | .own e sz rs => some (.rows e sz rs), frz := as.toList.flatMap fun x => frzOf (ρ x) } w) := by
  obtain ⟨hent, hcalls⟩ := hok
  have hfrz : ∀ b ∈ as.toList.flatMap (fun x => frzOf (ρ x)), lv b := fun b hb => by
    obtain ⟨x, hx, hb⟩ := List.mem_flatMap.1 hb
    exact hl x (by simpa using hx) b hb
  generalize hfr : as.toList.flatMap (fun x => frzOf (ρ x)) = frz at *
  have hWf := hW.freeze frz hfrz
  have hfn : CR Z w (.fn g caps) (a.eval fo) := by generalize hq : a.eval fo = q at hfo; cases hfo with | c x v h => exact h
  generalize hq : a.eval fo = q at hfn
  cases hfn with
  | fn g caps ps vals hpl hpc hpv =>
    have hrun : (execOp a.eval o).run P w = .ok (.enter g (as.map a.eval ++ (ps.map fun a => Value.pointer (some a)).toArray)) w := by
      have h2 : (callFunc g (as.map a.eval ++ (ps.map fun a => Value.pointer (some a)).toArray)).run P w = .ok (.enter g (as.map a.eval ++ (ps.map fun a => Value.pointer (some a)).toArray)) w := hent _ w
      simp only [execOp, ho, resolve, hq, Deferred.ofValue, invoke, Sem.run_bind, Sem.run_pure, Result.andThen_ok, Array.empty_append, h2]
    unfold OpRun
    rw [hrun]
    refine (hcalls (ZF Z β bx frz) w _ hWf.zin hWf.zsp (by simp [hpl]) (fun i x v h1 h2 => ?_)).mono ?_
    · by_cases hi : i < as.size
      · rw [List.getElem?_append_left (by simpa using hi), List.getElem?_map] at h1
        rw [Array.getElem?_append_left (by simpa using hi), Array.getElem?_map] at h2
        have hx : as[i]? = some as[i] := Array.getElem?_eq_getElem hi
        rw [Array.getElem?_toList, hx] at h1
        rw [hx] at h2
        simp only [Option.map_some, Option.some.injEq] at h1 h2
        subst h1; subst h2
        have hmem : as[i] ∈ as := Array.getElem_mem hi
        rcases hθ (ρ as[i]) with hq' | ⟨hq', hq''⟩
        · rw [hq']
          exact thaw_AR hW (hA _ hmem) (hl _ hmem) (fun b hb => by rw [← hfr]; exact List.mem_flatMap.2 ⟨as[i], by simpa using hmem, hb⟩)
        · have h3 := hA _ hmem
          rw [hq'] at h3
          rw [hq'']
          generalize a.eval as[i] = q' at h3
          cases h3
          exact .nil
      · rw [List.getElem?_append_right (by simpa using hi), List.getElem?_map] at h1
        rw [Array.getElem?_append_right (by simpa using hi)] at h2
        simp only [List.length_map, Array.length_toList, Array.size_map, List.getElem?_toArray, List.getElem?_map] at h1 h2
        cases hc : caps[i - as.size]? with
        | none => rw [hc] at h1; simp at h1
        | some cs =>
          cases hp : ps[i - as.size]? with
          | none => rw [hp] at h2; simp at h2
          | some ad =>
            rw [hc] at h1
            rw [hp] at h2
            simp only [Option.map_some, Option.some.injEq] at h1 h2
            subst h1; subst h2
            exact .pt cs ad (vals (i - as.size)) (fun k hk => by
              obtain ⟨z1, z2⟩ := hpc _ ad cs hp hc k hk
              exact ⟨.inl z1, z2⟩) (fun k c hk => (hpv _ cs k c hc hk).ext (ZF.ext _ _ _ _ _))
    · rintro e w' ⟨v, Z', rfl, he, hb, hz1, hz2, hz3, hret⟩
      refine ⟨v, rfl, ?_⟩
      have he0 : Ext Z Z' w w' := (ZF.ext Z β bx frz w).trans he
      have hblk : ∀ b, lv b → ∀ g, blk (β b) = some g → g < w.heap.size := fun b hlb g hg => by
        obtain ⟨x, hx, hB⟩ := hW.box b hlb
        exact (hB.blk_base hg).2
      -- the boxes, behind the call
      have boxes : ∀ (β' : Nat → Value) (cr' fz' : Nat → Prop), (∀ b, cr b → cr' b ∧ β' b = β b) → (∀ b, (fz b ∨ b ∈ frz) → fz' b) → ∀ b, lv b → ∃ x, bx b = some x ∧ BoxR base Z' w' β' cr' fz' b x := fun β' cr' fz' hbb hff b hlb => by
        obtain ⟨x, hx, hB⟩ := hWf.box b hlb
        refine ⟨x, hx, hB.ext he hbb (hW.sub b hlb) (fun g hg => hb.block g (hblk b hlb g hg)) (fun g hg a0 ha e => ?_) (hff b)⟩
        by_cases hza : ZF Z β bx frz a0
        · exact .inl hza
        · have := hz3 a0 ha hza
          have := hblk b hlb g hg
          omega
      have hzb : ∀ a, Z' a → ¬ Z a → base ≤ a.block := fun a0 h1 h2 => by
        by_cases hza : ZF Z β bx frz a0
        · exact ZF_base hW frz hfrz a0 hza h2
        · exact Nat.le_trans hW.hbase (hz3 a0 h1 hza)
      have hbel : Below base w0 w' := hW.below.trans (hb.mono hW.hbase)
      cases r with
      | v x =>
        refine ⟨Z', β, he0, fun _ _ => rfl, hzb, ?_, AR.ext (Ext.refl _ _) (fun b h => h.elim) hret⟩
        refine ⟨hbel, Nat.le_trans hW.hbase hb.size, hz1, hz2, fun b hlb => ?_, fun b b' g h1 h2 hne => ?_, fun b hlb => ?_, hW.oth.trans (.of_below hb)⟩
        · rcases hlb with ⟨hlb, _⟩ | ⟨_, h⟩
          · exact boxes β _ _ (fun b h => ⟨.inl h, rfl⟩) (fun b h => h) b hlb
          · simp at h
        · rcases h1 with ⟨h1, _⟩ | ⟨_, h⟩ <;> rcases h2 with ⟨h2, _⟩ | ⟨_, h⟩ <;> first | exact hW.dis b b' g h1 h2 hne | simp at h
        · rcases hlb with ⟨hlb, _⟩ | ⟨_, h⟩
          · exact .inl (hW.sub b hlb)
          · simp at h
      | own e sz rs =>
        obtain ⟨hnc, hnf, hbx⟩ := hnb e sz rs rfl
        obtain ⟨inner, hown, hr, hc, hzz⟩ := hret
        let β' : Nat → Value := fun b => if b = nb then v else β b
        have hβ : ∀ b, cr b → β' b = β b := fun b hc => by
          have : b ≠ nb := fun e => hnc (e ▸ hc)
          simp [β', this]
        have hβn : β' nb = v := by simp [β']
        have hcr : ∀ b, cr b → (cr b ∨ (b = nb ∧ (some (Bx.rows e sz rs)).isSome = true)) ∧ β' b = β b := fun b hc => ⟨.inl hc, hβ b hc⟩
        have hvb : ∀ g, blk v = some g → w.heap.size ≤ g ∧ v.ownBlock = some g := fun g hg => by
          rcases hown.2 with ⟨rfl, _⟩ | ⟨g', cap, cur, rfl, hbs, _⟩
          · simp [blk] at hg
          · simp only [blk, Option.some.injEq] at hg
            subst hg
            exact ⟨hbs, rfl⟩
        refine ⟨Z', β', he0, hβ, hzb, ?_, by
          simp only
          rw [← hβn]
          exact .own nb (.inr ⟨rfl, rfl⟩)⟩
        refine ⟨hbel, Nat.le_trans hW.hbase hb.size, hz1, hz2, fun b hlb => ?_, fun b b' g h1 h2 hne e1 e2 => ?_, fun b hlb => ?_, hW.oth.trans (.of_below hb)⟩
        · rcases hlb with ⟨hlb, _⟩ | ⟨rfl, _⟩
          · exact boxes β' _ _ hcr (fun b h => h) b hlb
          · refine ⟨_, hbx, .rows e sz rs inner ?_ hr hc (fun g hg a0 ha e1 => ?_) (fun _ g hg a0 ha e1 => ?_)⟩
            · rw [hβn]
              refine ⟨hown.1, ?_⟩
              rcases hown.2 with h | ⟨g, cap, cur, h1, h2, h3⟩
              · exact .inl h
              · exact .inr ⟨g, cap, cur, h1, Nat.le_trans hW.hbase h2, h3⟩
            · rw [hβn] at hg
              exact absurd e1 (hzz g hg a0 ha)
            · rw [hβn] at hg
              exact hzz g hg a0 ha e1
        · rcases h1 with ⟨h1, _⟩ | ⟨rfl, _⟩ <;> rcases h2 with ⟨h2, _⟩ | ⟨rfl, _⟩
          · rw [hβ b (hW.sub b h1)] at e1
            rw [hβ b' (hW.sub b' h2)] at e2
            exact hW.dis b b' g h1 h2 hne e1 e2
          · rw [hβ b (hW.sub b h1)] at e1
            rw [hβn] at e2
            have := hblk b h1 g e1
            have := (hvb g e2).1
            omega
          · rw [hβ b' (hW.sub b' h2)] at e2
            rw [hβn] at e1
            have := hblk b' h2 g e2
            have := (hvb g e1).1
            omega
          · exact hne rfl
        · rcases hlb with ⟨hlb, _⟩ | h
          · exact .inl (hW.sub b hlb)
          · exact .inr h

theorem op_call {fo : Operand} {as : Array Operand} {ats : Array TypeId} {ρ : Operand → AV} {g : FuncId} {caps : List (List C)} {r : Ret} (ho : o.op = .call { callee := .value fo, args := as, argTypes := ats })
    (hW : WR base w0 Z β cr lv fz bx w) (hfo : AR Z w β cr (.c (.fn g caps)) (a.eval fo)) (hA : ∀ x ∈ as, AR Z w β cr (ρ x) (a.eval x)) (hl : ∀ x ∈ as, ∀ b ∈ frzOf (ρ x), lv b)
    (hok : Ok P g ((as.toList.map fun x => thawF bx (ρ x)) ++ caps.map .pt) r) (hnb : ∀ e sz rs, r = .own e sz rs → ¬ cr nb ∧ ¬ fz nb ∧ bx nb = some (.rows e sz rs)) :
    OpRun P o a w (Post base w0 Z β cr lv fz bx nb { res := match r with | .v x => x | .own _ _ _ => .own nb, nw := match r with | .v _ => none | .own e sz rs => some (.rows e sz rs), frz := as.toList.flatMap fun x => frzOf (ρ x) } w) :=
  by cases r <;> exact op_callW (fun _ => .inl rfl) ho hW hfo hA hl hok hnb

/-! ### 3. A function with what it captures -/
def capOf (bx : Nat → Option Bx) : AV → Option (List C × List Nat)
  | .ptr b 0 => match bx b with
    | some (.cells cs) => if cs.all isC then some (cs.map toC, [b]) else none
    | _ => none
  | .pt cs => some (cs, [])
  | _ => none
theorem capOf_sound {x : AV} {v : Value} {cs : List C} {f frz : List Nat} (hW : WR base w0 Z β cr lv fz bx w) (h : AR Z w β cr x v) (hc : capOf bx x = some (cs, f)) (hl : ∀ b ∈ f, lv b) (hf : ∀ b ∈ f, b ∈ frz) :
    ∃ ad, v = .pointer (some ad) ∧ AR (ZF Z β bx frz) w β cr (.pt cs) v := by
  cases h with
  | ptr b off g hb hg =>
    cases off with
    | succ k => simp [capOf] at hc
    | zero =>
      simp only [capOf] at hc
      split at hc
      · rename_i cs' hbx
        split at hc
        · rename_i hall
          simp only [Option.some.injEq, Prod.mk.injEq] at hc
          obtain ⟨rfl, rfl⟩ := hc
          exact ⟨_, rfl, AR.ofCells hW (hl b (by simp)) hbx (hf b (by simp)) hg hall⟩
        · simp at hc
      · simp at hc
  | pt cs' a vals hcc hv =>
    simp only [capOf, Option.some.injEq, Prod.mk.injEq] at hc
    obtain ⟨rfl, rfl⟩ := hc
    exact ⟨_, rfl, .pt _ _ vals (fun i hi => ⟨.inl (hcc i hi).1, (hcc i hi).2⟩) fun i c h1 => (hv i c h1).ext (ZF.ext _ _ _ _ _)⟩
  | any | und | c | agg | own | optr | nil | tup | clo | yld => simp [capOf] at hc
def capsOf (bx : Nat → Option Bx) : List AV → Option (List (List C) × List Nat)
  | [] => some ([], [])
  | x :: l => match capOf bx x, capsOf bx l with
    | some (cs, f), some (css, fs) => some (cs :: css, f ++ fs)
    | _, _ => none
theorem capsOf_sound {frz : List Nat} (hW : WR base w0 Z β cr lv fz bx w) : ∀ (l : List AV) (vs : List Value) (css : List (List C)) (fs : List Nat), l.length = vs.length → (∀ (i : Nat) (x : AV) (v : Value), l[i]? = some x → vs[i]? = some v → AR Z w β cr x v) →
    capsOf bx l = some (css, fs) → (∀ b ∈ fs, lv b) → (∀ b ∈ fs, b ∈ frz) →
    ∃ ps : List Addr, vs = ps.map (fun a => Value.pointer (some a)) ∧ ps.length = css.length ∧ ∀ (k : Nat) (ad : Addr) (cs : List C), ps[k]? = some ad → css[k]? = some cs → AR (ZF Z β bx frz) w β cr (.pt cs) (.pointer (some ad))
  | [], [], css, fs, _, _, h, _, _ => by
    simp only [capsOf, Option.some.injEq, Prod.mk.injEq] at h
    obtain ⟨rfl, rfl⟩ := h
    exact ⟨[], rfl, rfl, by simp⟩
  | [], _ :: _, _, _, h, _, _, _, _ => by simp at h
  | _ :: _, [], _, _, h, _, _, _, _ => by simp at h
  | x :: l, v :: vs, css, fs, hlen, hA, h, hl, hf => by
    simp only [capsOf] at h
    cases h1 : capOf bx x with
    | none => rw [h1] at h; simp at h
    | some p =>
      obtain ⟨cs, f⟩ := p
      cases h2 : capsOf bx l with
      | none => rw [h1, h2] at h; simp at h
      | some q =>
        obtain ⟨css', fs'⟩ := q
        rw [h1, h2] at h
        simp only [Option.some.injEq, Prod.mk.injEq] at h
        obtain ⟨rfl, rfl⟩ := h
        obtain ⟨ad, rfl, hpt⟩ := capOf_sound hW (hA 0 x v rfl rfl) h1 (fun b hb => hl b (by simp [hb])) (fun b hb => hf b (by simp [hb]))
        obtain ⟨ps, rfl, hps, hrest⟩ := capsOf_sound hW l vs css' fs' (by simpa using hlen) (fun i x v e1 e2 => hA (i + 1) x v e1 e2) h2 (fun b hb => hl b (by simp [hb])) (fun b hb => hf b (by simp [hb]))
        refine ⟨ad :: ps, rfl, by simp [hps], fun k ad' cs' e1 e2 => ?_⟩
        match k with
        | 0 =>
          simp at e1 e2
          subst e1; subst e2
          exact hpt
        | k + 1 => exact hrest k ad' cs' e1 e2
theorem op_makeFunc {g : FuncId} {captured : Array Operand} {ρ : Operand → AV} {css : List (List C)} {fs : List Nat} (ho : o.op = .makeFunc (.func g) #[] captured) (hW : WR base w0 Z β cr lv fz bx w)
    (hA : ∀ x ∈ captured, AR Z w β cr (ρ x) (a.eval x)) (hc : capsOf bx (captured.toList.map ρ) = some (css, fs)) (hl : ∀ b ∈ fs, lv b) :
    OpRun P o a w (Post base w0 Z β cr lv fz bx nb { res := .c (.fn g css), frz := fs } w) := by
  obtain ⟨ps, hps, hpl, hpt⟩ := capsOf_sound (frz := fs) hW (captured.toList.map ρ) (captured.toList.map a.eval) css fs (by simp) (fun i x v h1 h2 => by
    rw [List.getElem?_map] at h1 h2
    cases hx : captured.toList[i]? with
    | none => rw [hx] at h1; simp at h1
    | some x0 =>
      rw [hx] at h1 h2
      simp only [Option.map_some, Option.some.injEq] at h1 h2
      subst h1; subst h2
      exact hA x0 (by simpa using List.mem_of_getElem? hx)) hc hl (fun b h => h)
  have harr : captured.map a.eval = (ps.map fun a => Value.pointer (some a)).toArray := by
    rw [← hps]
    apply Array.ext'
    simp
  refine .value (v := .func (.func g) #[] (ps.map fun a => Value.pointer (some a)).toArray) (w' := w) ?_ ⟨ZF Z β bx fs, β, ZF.ext _ _ _ _ _, fun _ _ => rfl, ZF_base hW fs hl, ?_, ?_⟩
  · simp [execOp, ho, Instr.makeFunc, harr]
  · exact (hW.freeze fs hl).mono (fun b h => .inl h) (fun b h => by
      rcases h with h | h
      · exact h.1
      · simp at h) (fun b h => h) (fun _ _ => rfl)
  · have hval : ∀ (k : Nat), ∃ vals : Nat → Value, ∀ (ad : Addr) (cs : List C), ps[k]? = some ad → css[k]? = some cs → (∀ i, i < cs.length → ZF Z β bx fs (ad.add i) ∧ w.cell? (ad.add i) = some (vals i)) ∧ ∀ (i : Nat) (c : C), cs[i]? = some c → CR (ZF Z β bx fs) w c (vals i) := fun k => by
      cases hp : ps[k]? with
      | none => exact ⟨fun _ => undef, fun ad cs h => by simp at h⟩
      | some ad =>
        cases hc : css[k]? with
        | none => exact ⟨fun _ => undef, fun ad cs _ h => by simp at h⟩
        | some cs =>
          have h := hpt k ad cs hp hc
          cases h with
          | pt _ _ vals h1 h2 =>
            refine ⟨vals, fun ad' cs' e1 e2 => ?_⟩
            simp only [Option.some.injEq] at e1 e2
            subst e1; subst e2
            exact ⟨h1, h2⟩
    refine .c _ _ (.fn g css ps (fun k => (hval k).choose) hpl (fun k ad cs h1 h2 i hi => ((hval k).choose_spec ad cs h1 h2).1 i hi) (fun k cs i c h1 h2 => ?_))
    have hk : k < ps.length := by rw [hpl]; exact (List.getElem?_eq_some_iff.1 h1).1
    exact ((hval k).choose_spec _ cs (List.getElem?_eq_getElem hk) h1).2 i c h2
end
end Go.Vam
