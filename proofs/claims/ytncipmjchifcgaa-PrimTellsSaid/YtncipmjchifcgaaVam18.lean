/- An abstract machine over data (part 18): what came in, read as data; a law's row out of a contract. -/
import Derived.Test.YtncipmjchifcgaaVam17
import Derived.ChangeArms
import Derived.ChangeSlices
import Derived.ChangeOld
import Derived.WideShapes
import Derived.SizedLaws
import Derived.Carry
import Derived.OpenShut
import Derived.ProofKit
namespace Go.Vam
open Go.RowKit
set_option linter.unusedVariables false
set_option linter.unusedSimpArgs false

/-! ### 1. The forms of cells -/
inductive Sh where
  | bool
  | int (k : IntKind)
  | str
  | sl (bytes : Nat) (r : List Sh)
mutual
def Fit : Sh → C → Prop
  | .bool, c => ∃ b, c = .sc (.bool b)
  | .int k, c => ∃ n, c = .sc (.int k n) ∧ (Lit.int k n).wf = true
  | .str, c => ∃ s, c = .sc (.string s) ∧ s.size ≤ 140737488351232
  | .sl bytes r, c => ∃ rows, c = .sl rows ∧ rows.length * bytes ≤ 140737488351232 ∧ ∀ row, row ∈ rows → FitL r row
def FitL : List Sh → List C → Prop
  | [], row => row = []
  | s :: l, row => ∃ c row', row = c :: row' ∧ Fit s c ∧ FitL l row'
end
theorem FitL.len : ∀ {l : List Sh} {row : List C}, FitL l row → row.length = l.length
  | [], row, h => by
    simp only [FitL] at h
    simp [h]
  | s :: l, row, h => by
    simp only [FitL] at h
    obtain ⟨c, row', rfl, _, h⟩ := h
    simp [FitL.len h]
theorem FitL.app : ∀ {l l' : List Sh} {row row' : List C}, FitL l row → FitL l' row' → FitL (l ++ l') (row ++ row')
  | [], l', row, row', h, h' => by
    simp only [FitL] at h
    subst h
    exact h'
  | s :: l, l', row, row', h, h' => by
    simp only [FitL] at h
    obtain ⟨c, r, rfl, h1, h2⟩ := h
    simp only [List.cons_append, FitL]
    exact ⟨c, _, rfl, h1, FitL.app h2 h'⟩

def fieldsSh (P : Program) (f : TypeId → Option (List Sh)) : Nat → List Field → Option (List Sh)
  | _, [] => some []
  | off, fd :: l => if fd.offset = off then match f fd.type, fieldsSh P f (off + P.cellsOf fd.type) l with
      | some r, some r' => if r.length = P.cellsOf fd.type then some (r ++ r') else none
      | _, _ => none
    else none
def shOf (P : Program) : Nat → TypeId → Option (List Sh)
  | 0, _ => none
  | n + 1, t => match P.underlying t with
    | some .bool => some [.bool]
    | some (.int k) => some [.int k]
    | some .string => some [.str]
    | some (.slice e) => match shOf P n e with
      | some r => if r.length = P.cellsOf e then some [.sl (P.bytesOf e) r] else none
      | none => none
    | some (.struct fs) => match fieldsSh P (shOf P n) 0 fs.toList with
      | some r => if r.length = P.cellsOf t then some r else none
      | none => none
    | _ => none

/-- All old cells. -/
def Zold (w : World) : Zone := fun a => a.block < w.heap.size ∧ a.spot = none
theorem Zold.cell {w : World} {a : Addr} {v : Value} (h : w.cell? a = some v) : Zold w a := by
  refine ⟨World.block_lt_of_cell? w a h, ?_⟩
  unfold World.cell? at h
  split at h
  · split at h
    · simp at h
    · rename_i hs
      cases hsp : a.spot with
      | none => rfl
      | some s => rw [hsp] at hs; simp at hs
  · simp at h

section
variable {H : Type} {enc : TypeId × Value → H} {P : Program} {w : World} {base : Nat} {spare : Nat → Bool} {held : Bool}

def CRs (w : World) (row : List C) (cs : List Value) : Prop := ∀ (i : Nat) (c : C) (v : Value), row[i]? = some c → cs[i]? = some v → CR (Zold w) w c v
theorem fields_read {n m : Nat} {cs : List Value} (IH : ∀ (t : TypeId) (shs : List Sh) (cs : List Value) (x : DataW H × List MemPlace), shOf P n t = some shs → DataW.trod enc P w base spare held m t cs = some x →
      (∀ k ∈ x.1.weights P t, k ≤ reachBytes) → ∃ row, FitL shs row ∧ cs.length = shs.length ∧ CRs w row cs) :
    ∀ (l : List Field) (off : Nat) (shs : List Sh) (ys : List (DataW H × List MemPlace)), fieldsSh P (shOf P n) off l = some shs → ys.length = l.length →
      (∀ (i : Nat) (f : Field), l[i]? = some f → DataW.trod enc P w base spare held m f.type ((cs.drop f.offset).take (P.cellsOf f.type)) = ys[i]?) →
      (∀ (i : Nat) (f : Field) (y : DataW H × List MemPlace), l[i]? = some f → ys[i]? = some y → ∀ k ∈ y.1.weights P f.type, k ≤ reachBytes) →
      ∃ row, FitL shs row ∧ CRs w row (cs.drop off)
  | [], off, shs, ys, h, _, _, _ => by
    simp only [fieldsSh, Option.some.injEq] at h
    subst h
    exact ⟨[], by simp [FitL], fun i c v h1 => by simp at h1⟩
  | fd :: l, off, shs, [], h, hl, _, _ => by simp at hl
  | fd :: l, off, shs, y :: ys, h, hl, ht, hw => by
    simp only [fieldsSh] at h
    split at h
    · rename_i ho
      split at h
      · rename_i r r' h1 h2
        split at h
        · rename_i hrl
          simp only [Option.some.injEq] at h
          subst h
          have e0 := ht 0 fd rfl
          simp only [List.getElem?_cons_zero] at e0
          obtain ⟨row1, f1, l1, c1⟩ := IH _ _ _ _ h1 e0 (hw 0 fd y rfl rfl)
          obtain ⟨row2, f2, c2⟩ := fields_read IH l (off + P.cellsOf fd.type) r' ys h2 (by simpa using hl) (fun i f hi => by have := ht (i + 1) f (by simpa using hi); simpa using this)
            (fun i f y hi hy => hw (i + 1) f y (by simpa using hi) (by simpa using hy))
          refine ⟨row1 ++ row2, f1.app f2, fun i c v e1 e2 => ?_⟩
          have hr1 := f1.len
          by_cases hi : i < row1.length
          · rw [List.getElem?_append_left hi] at e1
            refine c1 i c v e1 ?_
            rw [List.getElem?_take, if_pos (by omega), ho]
            exact e2
          · rw [List.getElem?_append_right (by omega)] at e1
            refine c2 (i - row1.length) c v e1 ?_
            rw [List.getElem?_drop] at e2 ⊢
            rw [← e2]
            congr 1
            omega
        · simp at h
      · simp at h
    · simp at h
theorem weightsAll_mem {e : TypeId} : ∀ {ds : List (DataW H)} {d : DataW H}, d ∈ ds → ∀ k ∈ d.weights P e, k ∈ DataW.weightsAll P e ds
  | d0 :: ds, d, hd, k, hk => by
    simp only [DataW.weightsAll, List.mem_append]
    rcases List.mem_cons.1 hd with rfl | hd
    · exact .inl hk
    · exact .inr (weightsAll_mem hd k hk)
  | [], d, hd, _, _ => by simp at hd
theorem sh_read : ∀ (n : Nat) (t : TypeId) (shs : List Sh) (fuel : Nat) (cs : List Value) (x : DataW H × List MemPlace), shOf P n t = some shs → DataW.trod enc P w base spare held fuel t cs = some x →
    (∀ k ∈ x.1.weights P t, k ≤ reachBytes) → ∃ row, FitL shs row ∧ cs.length = shs.length ∧ CRs w row cs
  | 0, t, shs, fuel, cs, x, h, _, _ => by simp [shOf] at h
  | n + 1, t, shs, fuel, cs, x, h, ht, hw => by
    simp only [shOf] at h
    split at h
    · rename_i hu
      simp only [Option.some.injEq] at h
      subst h
      obtain ⟨b, rfl, rfl⟩ := DataW.trod_bool hu ht
      refine ⟨[.sc (.bool b)], by simp [FitL, Fit], rfl, fun i c v e1 e2 => ?_⟩
      cases i <;> simp at e1 e2
      subst e1; subst e2
      exact .sc _ rfl
    · rename_i k hu
      simp only [Option.some.injEq] at h
      subst h
      obtain ⟨z, rfl, rfl, hz⟩ := DataW.trod_int hu ht
      refine ⟨[.sc (.int k z)], by simp [FitL, Fit, hz], rfl, fun i c v e1 e2 => ?_⟩
      cases i <;> simp at e1 e2
      subst e1; subst e2
      exact .sc _ rfl
    · rename_i hu
      simp only [Option.some.injEq] at h
      subst h
      obtain ⟨s, rfl, rfl, hs⟩ := DataW.trod_string hu ht
      have := hw s.data.toList.length (by simp [DataW.weights])
      refine ⟨[.sc (.string s)], by simp [FitL, Fit]; simpa [reachBytes] using this, rfl, fun i c v e1 e2 => ?_⟩
      cases i <;> simp at e1 e2
      subst e1; subst e2
      exact .sc _ rfl
    · rename_i e hu
      split at h
      · rename_i r hr
        split at h
        · rename_i hrl
          simp only [Option.some.injEq] at h
          subst h
          rcases DataW.trod_slice hu ht with ⟨rfl, rfl⟩ | ⟨a, len, cap, elems, rest, m, rfl, rfl, rfl, hb, hlc, hcm, hel, hcell, _, _⟩
          · refine ⟨[.sl []], by simp [FitL, Fit], rfl, fun i c v e1 e2 => ?_⟩
            cases i <;> simp at e1 e2
            subst e1; subst e2
            exact CR.nil _ _
          · have hlen : len * P.bytesOf e ≤ reachBytes := by
              have := hw ((elems.map (·.1)).length * P.bytesOf e + (rest.map (·.1)).length * P.bytesOf e) (by simp [DataW.weights, hu, Nat.add_mul])
              simp only [List.length_map, hel] at this
              omega
            have one : ∀ (j : Nat), ∃ row : List C, j < len → FitL r row ∧ ∀ (i : Nat) (c : C), row[i]? = some c → ∃ v, w.cell? (a.add (j * P.cellsOf e + i)) = some v ∧ CR (Zold w) w c v := fun j => by
              by_cases hj : j < len
              · have h1 := hcell j hj
                obtain ⟨y, hy⟩ : ∃ y, elems[j]? = some y := ⟨_, List.getElem?_eq_getElem (by omega)⟩
                rw [hy] at h1
                obtain ⟨cs', h2, h3⟩ := Option.bind_eq_some_iff.1 h1
                obtain ⟨_, hl2, hc2⟩ := World.cells?_some h2
                obtain ⟨row, f1, f2, f3⟩ := sh_read n e r m cs' y hr h3 (fun k hk => hw k (by
                  simp only [DataW.weights, hu, List.mem_cons, List.mem_append]
                  exact .inr (.inl (weightsAll_mem (List.mem_map.2 ⟨y, List.mem_of_getElem? hy, rfl⟩) k hk))))
                refine ⟨row, fun _ => ⟨f1, fun i c hi => ?_⟩⟩
                have hil : i < P.cellsOf e := by rw [← hrl, ← f1.len]; exact (List.getElem?_eq_some_iff.1 hi).1
                have hci : cs'[i]? = some (cs'[i]'(by omega)) := List.getElem?_eq_getElem (by omega)
                have h4 := hc2 i hil
                rw [hci, add_add] at h4
                exact ⟨_, h4, f3 i c _ hi hci⟩
              · exact ⟨[], fun h => absurd h hj⟩
            obtain ⟨f, hf⟩ := Classical.axiomOfChoice one
            have hget : ∀ (j : Nat) (row : List C), ((List.range len).map f)[j]? = some row → j < len ∧ row = f j := fun j row h => by
              rw [List.getElem?_map] at h
              by_cases hj : j < len
              · rw [List.getElem?_range hj] at h
                simp only [Option.map_some, Option.some.injEq] at h
                exact ⟨hj, h.symm⟩
              · rw [List.getElem?_eq_none (by simpa using hj)] at h
                simp at h
            refine ⟨[.sl ((List.range len).map f)], ?_, rfl, fun i c v e1 e2 => ?_⟩
            · simp only [FitL, Fit]
              refine ⟨_, [], rfl, ⟨_, rfl, by simpa [reachBytes] using hlen, fun row hrow => ?_⟩, rfl⟩
              obtain ⟨j, hj⟩ := List.getElem?_of_mem hrow
              obtain ⟨h1, rfl⟩ := hget j row hj
              exact (hf j h1).1
            · cases i <;> simp at e1 e2
              subst e1; subst e2
              have hl : ((List.range len).map f).length = len := by simp
              have := CR.sl (Z := Zold w) (w := w) ((List.range len).map f) (some a) cap (P.cellsOf e) (fun j i => (w.cell? (a.add (j * P.cellsOf e + i))).getD undef) (by simpa using hlc) (by
                  have : maxLen = 9223372036854775807 := rfl
                  rw [hl]; omega) (fun _ => rfl)
                (fun j row hj => by obtain ⟨h1, rfl⟩ := hget j row hj; rw [(hf j h1).1.len, hrl])
                (fun ad had j hj i hi => by
                  simp only [Option.some.injEq] at had
                  subst had
                  rw [hl] at hj
                  have hri : i < (f j).length := by rw [(hf j hj).1.len, hrl]; exact hi
                  obtain ⟨v, hv, _⟩ := (hf j hj).2 i _ (List.getElem?_eq_getElem hri)
                  exact ⟨Zold.cell hv, by rw [hv]; rfl⟩)
                (fun j row i c hj hi => by
                  obtain ⟨h1, rfl⟩ := hget j row hj
                  obtain ⟨v, hv, hc⟩ := (hf j h1).2 i c hi
                  rw [hv]; exact hc)
              rw [hl] at this
              exact this
        · simp at h
      · simp at h
    · rename_i fs hu
      split at h
      · rename_i r hr
        split at h
        · rename_i hrl
          simp only [Option.some.injEq] at h
          subst h
          obtain ⟨xs, m, rfl, rfl, hcl, hxl, hx⟩ := DataW.trod_struct hu ht
          obtain ⟨row, f1, f2⟩ := fields_read (cs := cs) (fun t shs cs x a b c => sh_read n t shs m cs x a b c) fs.toList 0 r xs hr (by simpa using hxl) (fun i f hi => hx i f (by simpa using hi)) (fun i f y hi hy k hk => hw k (by
            simp only [DataW.weights, hu]
            exact DataW.weights_mem_each (j := i) (by simp at hi; simp [hi]) (by rw [List.getElem?_map, hy]; rfl) k hk))
          exact ⟨row, f1, by rw [hcl, hrl], by simpa using f2⟩
        · simp at h
      · simp at h
    · simp at h

/-! ### 2. An argument as an abstract value -/
def descA : TypeDesc → Bool
  | .struct _ => true
  | _ => false
def avOf (P : Program) (t : TypeId) (row : List C) : AV :=
  match (P.underlying t).map descA with
  | some true => .agg row
  | _ => .c (row.getD 0 (.sc (.bool false)))
theorem av_read {r : Reach} {b0 n : Nat} {t : TypeId} {shs : List Sh} {v : Value} {d : DataW H} {ps : List MemPlace} (hs : shOf P n t = some shs) (hval : Value.okWide P w r b0 t v) (hd : DataW.Trod enc P w base spare held t v d ps)
    (hw : ∀ k ∈ d.weights P t, k ≤ reachBytes) : ∃ row, FitL shs row ∧ AR (Zold w) w (fun _ => undef) (fun _ => False) (avOf P t row) v := by
  obtain ⟨fuel, hf⟩ := hd
  obtain ⟨row, f1, f2, f3⟩ := sh_read n t shs fuel _ _ hs hf hw
  refine ⟨row, f1, ?_⟩
  have hrl := f1.len
  cases n with
  | zero => simp [shOf] at hs
  | succ n =>
    simp only [shOf] at hs
    have one : ∀ (u : Value), v = u → u.cells = #[u] → shs.length = 1 → (P.underlying t).map descA = some false → AR (Zold w) w (fun _ => undef) (fun _ => False) (avOf P t row) v := fun u hu hc hl he => by
      subst hu
      rw [hc] at f3
      rw [hl] at hrl
      obtain ⟨c, rfl⟩ := List.length_eq_one_iff.1 hrl
      unfold avOf
      rw [he]
      exact .c _ _ (f3 0 c v rfl rfl)
    split at hs
    · rename_i hu
      simp only [Option.some.injEq] at hs
      subst hs
      obtain ⟨b, rfl⟩ := WideShapes.okWide_bool hu hval
      exact one _ rfl rfl rfl (by rw [hu]; rfl)
    · rename_i k hu
      simp only [Option.some.injEq] at hs
      subst hs
      obtain ⟨b, rfl⟩ := WideShapes.okWide_int hu hval
      exact one _ rfl rfl rfl (by rw [hu]; rfl)
    · rename_i hu
      simp only [Option.some.injEq] at hs
      subst hs
      obtain ⟨b, rfl⟩ := WideShapes.okWide_string hu hval
      exact one _ rfl rfl rfl (by rw [hu]; rfl)
    · rename_i e hu
      obtain ⟨a, l, c, rfl⟩ := WideShapes.okWide_slice hu hval
      have hl1 : shs.length = 1 := by
        split at hs
        · split at hs
          · simp only [Option.some.injEq] at hs
            subst hs
            rfl
          · simp at hs
        · simp at hs
      exact one _ rfl rfl hl1 (by rw [hu]; rfl)
    · rename_i fs hu
      simp only [Value.okWide, hu] at hval
      obtain ⟨cs, rfl, hcs, _⟩ := hval
      unfold avOf
      rw [hu]
      simp only [Option.map_some, descA]
      refine .agg row cs (by simp [Value.cells] at f2; omega) fun i c v h1 h2 => f3 i c v h1 (by simpa [Value.cells] using h2)
    · simp at hs

/-! ### 3. A law's row -/
def ArgsFit (P : Program) (n : Nat) : List TypeId → List AV → Prop
  | [], l => l = []
  | t :: ts, l => ∃ shs row l', shOf P n t = some shs ∧ FitL shs row ∧ l = avOf P t row :: l' ∧ ArgsFit P n ts l'
theorem args_read {n b0 : Nat} : ∀ {ts : List TypeId} {vs : List Value} {ds : List (DataW H)} {ps : List MemPlace}, (ts.all fun t => (shOf P n t).isSome) = true → DataW.TrodAll enc P w base spare held ts vs ds ps →
    (∀ (j : Nat) t v, ts[j]? = some t → vs[j]? = some v → Value.okWide P w .any b0 t v) → (∀ k ∈ DataW.weightsEach P ts ds, k ≤ reachBytes) →
    ∃ l, ArgsFit P n ts l ∧ vs.length = l.length ∧ ∀ (i : Nat) (x : AV) (v : Value), l[i]? = some x → vs[i]? = some v → AR (Zold w) w (fun _ => undef) (fun _ => False) x v
  | [], [], [], _, _, _, _, _ => ⟨[], rfl, rfl, by simp⟩
  | t :: ts, v :: vs, d :: ds, _, hs, ⟨p, q, h1, h2, _⟩, hv, hw => by
    simp only [List.all_cons, Bool.and_eq_true] at hs
    obtain ⟨shs, hsh⟩ := Option.isSome_iff_exists.1 hs.1
    simp only [DataW.weightsEach, List.mem_append] at hw
    obtain ⟨row, f1, f2⟩ := av_read hsh (hv 0 t v rfl rfl) h1 (fun k hk => hw k (.inl hk))
    obtain ⟨l, g1, g2, g3⟩ := args_read hs.2 h2 (fun j t v a b => hv (j + 1) t v (by simpa using a) (by simpa using b)) (fun k hk => hw k (.inr hk))
    refine ⟨avOf P t row :: l, ⟨shs, row, l, hsh, f1, rfl, g1⟩, by simp [g2], fun i x u e1 e2 => ?_⟩
    cases i with
    | zero =>
      simp at e1 e2
      subst e1; subst e2
      exact f2
    | succ i => exact g3 i x u (by simpa using e1) (by simpa using e2)
theorem args_back (hl : laidOutB P = true) {w' : World} (hb : Below w.heap.size w w') : ∀ {ts : List TypeId} {vs : List Value} {ds : List (DataW H)} {ps : List MemPlace}, (ts.all fun t => P.readableRec t && decide (t < P.types.size)) = true →
    DataW.TrodAll enc P w 0 (fun _ => true) true ts vs ds ps → DataW.TrodAll enc P w' 0 (fun b => decide (b < w.heap.size)) true ts vs ds ps
  | [], [], [], _, _, h => h
  | t :: ts, v :: vs, d :: ds, ps, hr, ⟨p, q, h1, h2, e⟩ => by
    simp only [List.all_cons, Bool.and_eq_true, decide_eq_true_eq] at hr
    obtain ⟨m, hm⟩ := h1
    exact ⟨p, q, Below.trod hl hr.1.1 hr.1.2 ⟨m, hm⟩ hb (DataW.trod_lt m _ _ _ hm), args_back hl hb hr.2 h2, e⟩
theorem trodAll_len : ∀ {ts : List TypeId} {vs : List Value} {ds : List (DataW H)} {ps : List MemPlace}, DataW.TrodAll enc P w base spare held ts vs ds ps → ds.length = ts.length
  | [], [], [], _, _ => rfl
  | _ :: _, _ :: _, _ :: _, _, ⟨_, _, _, h, _⟩ => by simp [trodAll_len h]
end

/-- **A LAW'S ROW, OUT OF ITS CONTRACT.** -/
theorem law_lifted {C : Checked} {os : Os} {f : FuncId} {fn : Func} {s : ChangeSpec} {conds : List PathCond} {H : Type} {enc : TypeId × Value → H} (own : ownKnob C.prog.godebug = none) (laid : laidOutB C.prog = true) (started : os.Started)
    (noInit : C.prog.inits.idxOf? f = none) (hfn : C.prog.funcs[f]? = some fn)
    (witness : ∃ (w : World) (tape : Tape) (i : Input), w.os = os ∧ (w.forCall tape i).Shaped C.prog ∧ i.vars = [] ∧ Input.okWide C.prog (w.forCall tape i) .any w.heap.size f i ∧
      s.pre6 enc C.prog fn conds false (w.forCall tape i).memory i.args ∧ ({} : Assume).holds C.prog (lone (Frame.enter C.prog f i.args .normal) [] (w.forCall tape i)))
    (n : Nat) (ts : List TypeId) (rt : TypeId) (hts : fn.params.toList = ts) (hrt : fn.resultTypes = #[rt]) (hb : C.prog.underlying rt = some .bool) (hsh : (ts.all fun t => (shOf C.prog n t).isSome) = true)
    (hrd : (ts.all fun t => C.prog.readableRec t && decide (t < C.prog.types.size)) = true) (hv : s.vars = []) (hs : ∀ ds : List (DataW H), ds.length = ts.length → s.fn H ds = { results := [.lit (.bool true)], args := ds })
    (ok : ∀ l, ArgsFit C.prog n ts l → Ok C.prog f l (.v (.c (.sc (.bool true))))) :
    ReturnsInHanded {} C os f .any (s.pre6 enc C.prog fn conds false) (s.post enc C.prog fn false true false false) := by
  refine returnsInHanded_of_change_sized own started noInit hfn witness fun W base args ds gs before hval hW hcnd hsz _ => ?_
  have hW' := hW
  obtain ⟨p, q, hA, hV, rfl, hfz, hnd⟩ := hW
  rw [hv] at hV
  obtain ⟨rfl, rfl⟩ := ChangeShapes.trodVars_none hV
  rw [hts] at hA
  have hwt : ∀ k ∈ DataW.weightsEach C.prog ts ds, k ≤ reachBytes := fun k hk => by
    rw [List.all_eq_true] at hsz
    have hmem : ∀ (ts ts' : List TypeId) (ds ds' : List (DataW H)), k ∈ DataW.weightsEach C.prog ts ds → k ∈ DataW.weightsEach C.prog (ts ++ ts') (ds ++ ds') := by
      intro ts
      induction ts with
      | nil => intro ts' ds ds' h; simp [DataW.weightsEach] at h
      | cons t ts ih =>
        intro ts' ds ds' h
        cases ds with
        | nil => simp [DataW.weightsEach] at h
        | cons d ds =>
          simp only [DataW.weightsEach, List.mem_append, List.cons_append] at h ⊢
          rcases h with h | h
          · exact .inl h
          · exact .inr (ih _ _ _ h)
    simpa using hsz k (by rw [hts]; exact hmem _ _ _ _ hk)
  have hval' : ∀ (j : Nat) t v, ts[j]? = some t → args.toList[j]? = some v → Value.okWide C.prog W .any base t v := fun j t v h1 h2 => hval j t v (by rw [← hts] at h1; simpa using h1) (by simpa using h2)
  obtain ⟨l, g1, g2, g3⟩ := args_read hsh hA hval' hwt
  obtain ⟨_, hok⟩ := ok l g1
  refine (hok (Zold W) W args (fun a h => h.1) (fun a h => h.2) (by simpa using g2) (fun i x v h1 h2 => g3 i x v h1 (by simpa using h2))).mono fun e W' h => ?_
  obtain ⟨v, Z', rfl, _, bel, _, _, _, hr⟩ := h
  refine ⟨v, rfl, ?_⟩
  simp only [RetR] at hr
  have hvb : v = .bool true := hr.sc_inv.1
  subst hvb
  have hsp := hs ds (trodAll_len hA)
  refine ⟨ds, [], p ++ [], [], p, [], ?_, ?_, ?_, ?_, bel.frame _, fun h => by cases h⟩
  · simpa using hW'
  · rw [List.append_nil, hsp, hrt]
    exact ChangeShapes.trodAll_mk1 (shut_bool hb _)
  · rw [List.append_nil, hsp, hts]
    exact args_back laid bel hrd hA
  · rw [List.append_nil, hsp, hv]
    rfl
end Go.Vam
