/- An abstract machine over data (part 18): what came in, read as data; a law's row out of a contract. -/
import Derived.Test.YtmfbcgheffdghaaGreatG5
import Derived.ChangeArms
import Derived.ChangeSlices
import Derived.ChangeOld
import Derived.WideShapes
import Derived.SizedLaws
import Derived.Carry
import Derived.OpenShut
import Derived.ProofKit
set_option linter.unusedSimpArgs false
set_option linter.unusedVariables false
namespace Go.Vam
open Go.RowKit
set_option linter.unusedVariables false
set_option linter.unusedSimpArgs false

/-! ### 1. The forms of cells -/
inductive Sh where
  | bool
  | int (k : IntKind)
  | str
  | sl (bytes : Nat) (r : List Sh)
mutual
def Fit : Sh → C → Prop
  | .bool, c => ∃ b, c = .sc (.bool b)
  | .int k, c => ∃ n, c = .sc (.int k n) ∧ (Lit.int k n).wf = true
  | .str, c => ∃ s, c = .sc (.string s) ∧ s.size ≤ 140737488351232
  | .sl bytes r, c => ∃ rows, c = .sl rows ∧ rows.length * bytes ≤ 140737488351232 ∧ ∀ row, row ∈ rows → FitL r row
def FitL : List Sh → List C → Prop
  | [], row => row = []
  | s :: l, row => ∃ c row', row = c :: row' ∧ Fit s c ∧ FitL l row'
end
theorem FitL.len : ∀ {l : List Sh} {row : List C}, FitL l row → row.length = l.length
  | [], row, h => by
    simp only [FitL] at h
    simp [h]
  | s :: l, row, h => by
    simp only [FitL] at h
    obtain ⟨c, row', rfl, _, h⟩ := h
    simp [FitL.len h]
theorem FitL.app : ∀ {l l' : List Sh} {row row' : List C}, FitL l row → FitL l' row' → FitL (l ++ l') (row ++ row')
  | [], l', row, row', h, h' => by
    simp only [FitL] at h
    subst h
    exact h'
  | s :: l, l', row, row', h, h' => by
    simp only [FitL] at h
    obtain ⟨c, r, rfl, h1, h2⟩ := h
    simp only [List.cons_append, FitL]
    exact ⟨c, _, rfl, h1, FitL.app h2 h'⟩

def fieldsSh (P : Program) (f : TypeId → Option (List Sh)) : Nat → List Field → Option (List Sh)
  | _, [] => some []
  | off, fd :: l => if fd.offset = off then match f fd.type, fieldsSh P f (off + P.cellsOf fd.type) l with
      | some r, some r' => if r.length = P.cellsOf fd.type then some (r ++ r') else none
      | _, _ => none
    else none
def shOf (P : Program) : Nat → TypeId → Option (List Sh)
  | 0, _ => none
  | n + 1, t => match P.underlying t with
    | some .bool => some [.bool]
    | some (.int k) => some [.int k]
    | some .string => some [.str]
    | some (.slice e) => match shOf P n e with
      | some r => if r.length = P.cellsOf e then some [.sl (P.bytesOf e) r] else none
      | none => none
    | some (.struct fs) => match fieldsSh P (shOf P n) 0 fs.toList with
      | some r => if r.length = P.cellsOf t then some r else none
      | none => none
    | _ => none

/-- All old cells. -/
def Zold (w : World) : Zone := fun a => a.block < w.heap.size ∧ a.spot = none
theorem Zold.cell {w : World} {a : Addr} {v : Value} (h : w.cell? a = some v) : Zold w a := by
  refine ⟨World.block_lt_of_cell? w a h, ?_⟩
  unfold World.cell? at h
  split at h
  · split at h
    · simp at h
    · rename_i hs
      cases hsp : a.spot with
      | none => rfl
      | some s => rw [hsp] at hs; simp at hs
  · simp at h

section
variable {H : Type} {enc : TypeId × Value → H} {P : Program} {w : World} {base : Nat} {spare : Nat → Bool} {held : Bool}

def CRs (w : World) (row : List C) (cs : List Value) : Prop := ∀ (i : Nat) (c : C) (v : Value), row[i]? = some c → cs[i]? = some v → CR (Zold w) w c v
theorem fields_read {n m : Nat} {cs : List Value} (IH : ∀ (t : TypeId) (shs : List Sh) (cs : List Value) (x : DataW H × List MemPlace), shOf P n t = some shs → DataW.trod enc P w base spare held m t cs = some x →
      (∀ k ∈ x.1.weights P t, k ≤ reachBytes) → ∃ row, FitL shs row ∧ cs.length = shs.length ∧ CRs w row cs) :
    ∀ (l : List Field) (off : Nat) (shs : List Sh) (ys : List (DataW H × List MemPlace)), fieldsSh P (shOf P n) off l = some shs → ys.length = l.length →
      (∀ (i : Nat) (f : Field), l[i]? = some f → DataW.trod enc P w base spare held m f.type ((cs.drop f.offset).take (P.cellsOf f.type)) = ys[i]?) →
      (∀ (i : Nat) (f : Field) (y : DataW H × List MemPlace), l[i]? = some f → ys[i]? = some y → ∀ k ∈ y.1.weights P f.type, k ≤ reachBytes) →
      ∃ row, FitL shs row ∧ CRs w row (cs.drop off)
  | [], off, shs, ys, h, _, _, _ => by
    simp only [fieldsSh, Option.some.injEq] at h
    subst h
    exact ⟨[], by simp [FitL], fun i c v h1 => by simp at h1⟩
  | fd :: l, off, shs, [], h, hl, _, _ => by simp at hl
  | fd :: l, off, shs, y :: ys, h, hl, ht, hw => by
    simp only [fieldsSh] at h
    split at h
    · rename_i ho
      split at h
      · rename_i r r' h1 h2
        split at h
        · rename_i hrl
          simp only [Option.some.injEq] at h
          subst h
          have e0 := ht 0 fd rfl
          simp only [List.getElem?_cons_zero] at e0
          obtain ⟨row1, f1, l1, c1⟩ := IH _ _ _ _ h1 e0 (hw 0 fd y rfl rfl)
          obtain ⟨row2, f2, c2⟩ := fields_read IH l (off + P.cellsOf fd.type) r' ys h2 (by simpa using hl) (fun i f hi => by have := ht (i + 1) f (by simpa using hi); simpa using this)
            (fun i f y hi hy => hw (i + 1) f y (by simpa using hi) (by simpa using hy))
          refine ⟨row1 ++ row2, f1.app f2, fun i c v e1 e2 => ?_⟩
          have hr1 := f1.len
          by_cases hi : i < row1.length
          · rw [List.getElem?_append_left hi] at e1
            refine c1 i c v e1 ?_
            rw [List.getElem?_take, if_pos (by omega), ho]
            exact e2
          · rw [List.getElem?_append_right (by omega)] at e1
            refine c2 (i - row1.length) c v e1 ?_
            rw [List.getElem?_drop] at e2 ⊢
            rw [← e2]
            congr 1
            omega
        · simp at h
      · simp at h
    · simp at h
theorem weightsAll_mem {e : TypeId} : ∀ {ds : List (DataW H)} {d : DataW H}, d ∈ ds → ∀ k ∈ d.weights P e, k ∈ DataW.weightsAll P e ds
  | d0 :: ds, d, hd, k, hk => by
    simp only [DataW.weightsAll, List.mem_append]
    rcases List.mem_cons.1 hd with rfl | hd
    · exact .inl hk
    · exact .inr (weightsAll_mem hd k hk)
  | [], d, hd, _, _ => by simp at hd
theorem sh_read : ∀ (n : Nat) (t : TypeId) (shs : List Sh) (fuel : Nat) (cs : List Value) (x : DataW H × List MemPlace), shOf P n t = some shs → DataW.trod enc P w base spare held fuel t cs = some x →
    (∀ k ∈ x.1.weights P t, k ≤ reachBytes) → ∃ row, FitL shs row ∧ cs.length = shs.length ∧ CRs w row cs
  | 0, t, shs, fuel, cs, x, h, _, _ => by simp [shOf] at h
  | n + 1, t, shs, fuel, cs, x, h, ht, hw => by
    simp only [shOf] at h
    split at h
    · rename_i hu
      simp only [Option.some.injEq] at h
      subst h
      obtain ⟨b, rfl, rfl⟩ := DataW.trod_bool hu ht
      refine ⟨[.sc (.bool b)], by simp [FitL, Fit], rfl, fun i c v e1 e2 => ?_⟩
      cases i <;> simp at e1 e2
      subst e1; subst e2
      exact .sc _ rfl
    · rename_i k hu
      simp only [Option.some.injEq] at h
      subst h
      obtain ⟨z, rfl, rfl, hz⟩ := DataW.trod_int hu ht
      refine ⟨[.sc (.int k z)], by simp [FitL, Fit, hz], rfl, fun i c v e1 e2 => ?_⟩
      cases i <;> simp at e1 e2
      subst e1; subst e2
      exact .sc _ rfl
    · rename_i hu
      simp only [Option.some.injEq] at h
      subst h
      obtain ⟨s, rfl, rfl, hs⟩ := DataW.trod_string hu ht
      have := hw s.data.toList.length (by simp [DataW.weights])
      refine ⟨[.sc (.string s)], by simp [FitL, Fit]; simpa [reachBytes] using this, rfl, fun i c v e1 e2 => ?_⟩
      cases i <;> simp at e1 e2
      subst e1; subst e2
      exact .sc _ rfl
    · rename_i e hu
      split at h
      · rename_i r hr
        split at h
        · rename_i hrl
          simp only [Option.some.injEq] at h
          subst h
          rcases DataW.trod_slice hu ht with ⟨rfl, rfl⟩ | ⟨a, len, cap, elems, rest, m, rfl, rfl, rfl, hb, hlc, hcm, hel, hcell, _, _⟩
          · refine ⟨[.sl []], by simp [FitL, Fit], rfl, fun i c v e1 e2 => ?_⟩
            cases i <;> simp at e1 e2
            subst e1; subst e2
            exact CR.nil _ _
          · have hlen : len * P.bytesOf e ≤ reachBytes := by
              have := hw ((elems.map (·.1)).length * P.bytesOf e + (rest.map (·.1)).length * P.bytesOf e) (by simp [DataW.weights, hu, Nat.add_mul])
              simp only [List.length_map, hel] at this
              omega
            have one : ∀ (j : Nat), ∃ row : List C, j < len → FitL r row ∧ ∀ (i : Nat) (c : C), row[i]? = some c → ∃ v, w.cell? (a.add (j * P.cellsOf e + i)) = some v ∧ CR (Zold w) w c v := fun j => by
              by_cases hj : j < len
              · have h1 := hcell j hj
                obtain ⟨y, hy⟩ : ∃ y, elems[j]? = some y := ⟨_, List.getElem?_eq_getElem (by omega)⟩
                rw [hy] at h1
                obtain ⟨cs', h2, h3⟩ := Option.bind_eq_some_iff.1 h1
                obtain ⟨_, hl2, hc2⟩ := World.cells?_some h2
                obtain ⟨row, f1, f2, f3⟩ := sh_read n e r m cs' y hr h3 (fun k hk => hw k (by
                  simp only [DataW.weights, hu, List.mem_cons, List.mem_append]
                  exact .inr (.inl (weightsAll_mem (List.mem_map.2 ⟨y, List.mem_of_getElem? hy, rfl⟩) k hk))))
                refine ⟨row, fun _ => ⟨f1, fun i c hi => ?_⟩⟩
                have hil : i < P.cellsOf e := by rw [← hrl, ← f1.len]; exact (List.getElem?_eq_some_iff.1 hi).1
                have hci : cs'[i]? = some (cs'[i]'(by omega)) := List.getElem?_eq_getElem (by omega)
                have h4 := hc2 i hil
                rw [hci, add_add] at h4
                exact ⟨_, h4, f3 i c _ hi hci⟩
              · exact ⟨[], fun h => absurd h hj⟩
            obtain ⟨f, hf⟩ := Classical.axiomOfChoice one
            have hget : ∀ (j : Nat) (row : List C), ((List.range len).map f)[j]? = some row → j < len ∧ row = f j := fun j row h => by
              rw [List.getElem?_map] at h
              by_cases hj : j < len
              · rw [List.getElem?_range hj] at h
                simp only [Option.map_some, Option.some.injEq] at h
                exact ⟨hj, h.symm⟩
              · rw [List.getElem?_eq_none (by simpa using hj)] at h
                simp at h
            refine ⟨[.sl ((List.range len).map f)], ?_, rfl, fun i c v e1 e2 => ?_⟩
            · simp only [FitL, Fit]
              refine ⟨_, [], rfl, ⟨_, rfl, by simpa [reachBytes] using hlen, fun row hrow => ?_⟩, rfl⟩
              obtain ⟨j, hj⟩ := List.getElem?_of_mem hrow
              obtain ⟨h1, rfl⟩ := hget j row hj
              exact (hf j h1).1
            · cases i <;> simp at e1 e2
              subst e1; subst e2
              have hl : ((List.range len).map f).length = len := by simp
              have := CR.sl (Z := Zold w) (w := w) ((List.range len).map f) (some a) cap (P.cellsOf e) (fun j i => (w.cell? (a.add (j * P.cellsOf e + i))).getD undef) (by simpa using hlc) (by
                  have : maxLen = 9223372036854775807 := rfl
                  rw [hl]; omega) (fun _ => rfl)
                (fun j row hj => by obtain ⟨h1, rfl⟩ := hget j row hj; rw [(hf j h1).1.len, hrl])
                (fun ad had j hj i hi => by
                  simp only [Option.some.injEq] at had
                  subst had
                  rw [hl] at hj
                  have hri : i < (f j).length := by rw [(hf j hj).1.len, hrl]; exact hi
                  obtain ⟨v, hv, _⟩ := (hf j hj).2 i _ (List.getElem?_eq_getElem hri)
                  exact ⟨Zold.cell hv, by rw [hv]; rfl⟩)
                (fun j row i c hj hi => by
                  obtain ⟨h1, rfl⟩ := hget j row hj
                  obtain ⟨v, hv, hc⟩ := (hf j h1).2 i c hi
                  rw [hv]; exact hc)
              rw [hl] at this
              exact this
        · simp at h
      · simp at h
    · rename_i fs hu
      split at h
      · rename_i r hr
        split at h
        · rename_i hrl
          simp only [Option.some.injEq] at h
          subst h
          obtain ⟨xs, m, rfl, rfl, hcl, hxl, hx⟩ := DataW.trod_struct hu ht
          obtain ⟨row, f1, f2⟩ := fields_read (cs := cs) (fun t shs cs x a b c => sh_read n t shs m cs x a b c) fs.toList 0 r xs hr (by simpa using hxl) (fun i f hi => hx i f (by simpa using hi)) (fun i f y hi hy k hk => hw k (by
            simp only [DataW.weights, hu]
            exact DataW.weights_mem_each (j := i) (by simp at hi; simp [hi]) (by rw [List.getElem?_map, hy]; rfl) k hk))
          exact ⟨row, f1, by rw [hcl, hrl], by simpa using f2⟩
        · simp at h
      · simp at h
    · simp at h

/-! ### 2. An argument as an abstract value -/
def descA : TypeDesc → Bool
  | .struct _ => true
  | _ => false
def avOf (P : Program) (t : TypeId) (row : List C) : AV :=
  match (P.underlying t).map descA with
  | some true => .agg row
  | _ => .c (row.getD 0 (.sc (.bool false)))
theorem av_read {r : Reach} {b0 n : Nat} {t : TypeId} {shs : List Sh} {v : Value} {d : DataW H} {ps : List MemPlace} (hs : shOf P n t = some shs) (hval : Value.okWide P w r b0 t v) (hd : DataW.Trod enc P w base spare held t v d ps)
    (hw : ∀ k ∈ d.weights P t, k ≤ reachBytes) : ∃ row, FitL shs row ∧ AR (Zold w) w (fun _ => undef) (fun _ => False) (avOf P t row) v := by
  obtain ⟨fuel, hf⟩ := hd
  obtain ⟨row, f1, f2, f3⟩ := sh_read n t shs fuel _ _ hs hf hw
  refine ⟨row, f1, ?_⟩
  have hrl := f1.len
  cases n with
  | zero => simp [shOf] at hs
  | succ n =>
    simp only [shOf] at hs
    have one : ∀ (u : Value), v = u → u.cells = #[u] → shs.length = 1 → (P.underlying t).map descA = some false → AR (Zold w) w (fun _ => undef) (fun _ => False) (avOf P t row) v := fun u hu hc hl he => by
      subst hu
      rw [hc] at f3
      rw [hl] at hrl
      obtain ⟨c, rfl⟩ := List.length_eq_one_iff.1 hrl
      unfold avOf
      rw [he]
      exact .c _ _ (f3 0 c v rfl rfl)
    split at hs
    · rename_i hu
      simp only [Option.some.injEq] at hs
      subst hs
      obtain ⟨b, rfl⟩ := WideShapes.okWide_bool hu hval
      exact one _ rfl rfl rfl (by rw [hu]; rfl)
    · rename_i k hu
      simp only [Option.some.injEq] at hs
      subst hs
      obtain ⟨b, rfl⟩ := WideShapes.okWide_int hu hval
      exact one _ rfl rfl rfl (by rw [hu]; rfl)
    · rename_i hu
      simp only [Option.some.injEq] at hs
      subst hs
      obtain ⟨b, rfl⟩ := WideShapes.okWide_string hu hval
      exact one _ rfl rfl rfl (by rw [hu]; rfl)
    · rename_i e hu
      obtain ⟨a, l, c, rfl⟩ := WideShapes.okWide_slice hu hval
      have hl1 : shs.length = 1 := by
        split at hs
        · split at hs
          · simp only [Option.some.injEq] at hs
            subst hs
            rfl
          · simp at hs
        · simp at hs
      exact one _ rfl rfl hl1 (by rw [hu]; rfl)
    · rename_i fs hu
      simp only [Value.okWide, hu] at hval
      obtain ⟨cs, rfl, hcs, _⟩ := hval
      unfold avOf
      rw [hu]
      simp only [Option.map_some, descA]
      refine .agg row cs (by simp [Value.cells] at f2; omega) fun i c v h1 h2 => f3 i c v h1 (by simpa [Value.cells] using h2)
    · simp at hs

/-! ### 3. A law's row -/
def ArgsFit (P : Program) (n : Nat) : List TypeId → List AV → Prop
  | [], l => l = []
  | t :: ts, l => ∃ shs row l', shOf P n t = some shs ∧ FitL shs row ∧ l = avOf P t row :: l' ∧ ArgsFit P n ts l'
theorem args_read {n b0 : Nat} : ∀ {ts : List TypeId} {vs : List Value} {ds : List (DataW H)} {ps : List MemPlace}, (ts.all fun t => (shOf P n t).isSome) = true → DataW.TrodAll enc P w base spare held ts vs ds ps →
    (∀ (j : Nat) t v, ts[j]? = some t → vs[j]? = some v → Value.okWide P w .any b0 t v) → (∀ k ∈ DataW.weightsEach P ts ds, k ≤ reachBytes) →
    ∃ l, ArgsFit P n ts l ∧ vs.length = l.length ∧ ∀ (i : Nat) (x : AV) (v : Value), l[i]? = some x → vs[i]? = some v → AR (Zold w) w (fun _ => undef) (fun _ => False) x v
  | [], [], [], _, _, _, _, _ => ⟨[], rfl, rfl, by simp⟩
  | t :: ts, v :: vs, d :: ds, _, hs, ⟨p, q, h1, h2, _⟩, hv, hw => by
    simp only [List.all_cons, Bool.and_eq_true] at hs
    obtain ⟨shs, hsh⟩ := Option.isSome_iff_exists.1 hs.1
    simp only [DataW.weightsEach, List.mem_append] at hw
    obtain ⟨row, f1, f2⟩ := av_read hsh (hv 0 t v rfl rfl) h1 (fun k hk => hw k (.inl hk))
    obtain ⟨l, g1, g2, g3⟩ := args_read hs.2 h2 (fun j t v a b => hv (j + 1) t v (by simpa using a) (by simpa using b)) (fun k hk => hw k (.inr hk))
    refine ⟨avOf P t row :: l, ⟨shs, row, l, hsh, f1, rfl, g1⟩, by simp [g2], fun i x u e1 e2 => ?_⟩
    cases i with
    | zero =>
      simp at e1 e2
      subst e1; subst e2
      exact f2
    | succ i => exact g3 i x u (by simpa using e1) (by simpa using e2)
theorem args_back (hl : laidOutB P = true) {w' : World} (hb : Below w.heap.size w w') : ∀ {ts : List TypeId} {vs : List Value} {ds : List (DataW H)} {ps : List MemPlace}, (ts.all fun t => P.readableRec t && decide (t < P.types.size)) = true →
    DataW.TrodAll enc P w 0 (fun _ => true) true ts vs ds ps → DataW.TrodAll enc P w' 0 (fun b => decide (b < w.heap.size)) true ts vs ds ps
  | [], [], [], _, _, h => h
  | t :: ts, v :: vs, d :: ds, ps, hr, ⟨p, q, h1, h2, e⟩ => by
    simp only [List.all_cons, Bool.and_eq_true, decide_eq_true_eq] at hr
    obtain ⟨m, hm⟩ := h1
    exact ⟨p, q, Below.trod hl hr.1.1 hr.1.2 ⟨m, hm⟩ hb (DataW.trod_lt m _ _ _ hm), args_back hl hb hr.2 h2, e⟩
theorem trodAll_len : ∀ {ts : List TypeId} {vs : List Value} {ds : List (DataW H)} {ps : List MemPlace}, DataW.TrodAll enc P w base spare held ts vs ds ps → ds.length = ts.length
  | [], [], [], _, _ => rfl
  | _ :: _, _ :: _, _ :: _, _, ⟨_, _, _, h, _⟩ => by simp [trodAll_len h]
end

/-- **A LAW'S ROW, OUT OF ITS CONTRACT.** -/
theorem law_lifted {C : Checked} {os : Os} {f : FuncId} {fn : Func} {s : ChangeSpec} {conds : List PathCond} {H : Type} {enc : TypeId × Value → H} (own : ownKnob C.prog.godebug = none) (laid : laidOutB C.prog = true) (started : os.Started)
    (noInit : C.prog.inits.idxOf? f = none) (hfn : C.prog.funcs[f]? = some fn)
    (witness : ∃ (w : World) (tape : Tape) (i : Input), w.os = os ∧ (w.forCall tape i).Shaped C.prog ∧ i.vars = [] ∧ Input.okWide C.prog (w.forCall tape i) .any w.heap.size f i ∧
      s.pre6 enc C.prog fn conds false (w.forCall tape i).memory i.args ∧ ({} : Assume).holds C.prog (lone (Frame.enter C.prog f i.args .normal) [] (w.forCall tape i)))
    (n : Nat) (ts : List TypeId) (rt : TypeId) (hts : fn.params.toList = ts) (hrt : fn.resultTypes = #[rt]) (hb : C.prog.underlying rt = some .bool) (hsh : (ts.all fun t => (shOf C.prog n t).isSome) = true)
    (hrd : (ts.all fun t => C.prog.readableRec t && decide (t < C.prog.types.size)) = true) (hv : s.vars = []) (hs : ∀ ds : List (DataW H), ds.length = ts.length → s.fn H ds = { results := [.lit (.bool true)], args := ds })
    (ok : ∀ l, ArgsFit C.prog n ts l → Ok C.prog f l (.v (.c (.sc (.bool true))))) :
    ReturnsInHanded {} C os f .any (s.pre6 enc C.prog fn conds false) (s.post enc C.prog fn false true false false) := by
  refine returnsInHanded_of_change_sized own started noInit hfn witness fun W base args ds gs before hval hW hcnd hsz _ => ?_
  have hW' := hW
  obtain ⟨p, q, hA, hV, rfl, hfz, hnd⟩ := hW
  rw [hv] at hV
  obtain ⟨rfl, rfl⟩ := ChangeShapes.trodVars_none hV
  rw [hts] at hA
  have hwt : ∀ k ∈ DataW.weightsEach C.prog ts ds, k ≤ reachBytes := fun k hk => by
    rw [List.all_eq_true] at hsz
    have hmem : ∀ (ts ts' : List TypeId) (ds ds' : List (DataW H)), k ∈ DataW.weightsEach C.prog ts ds → k ∈ DataW.weightsEach C.prog (ts ++ ts') (ds ++ ds') := by
      intro ts
      induction ts with
      | nil => intro ts' ds ds' h; simp [DataW.weightsEach] at h
      | cons t ts ih =>
        intro ts' ds ds' h
        cases ds with
        | nil => simp [DataW.weightsEach] at h
        | cons d ds =>
          simp only [DataW.weightsEach, List.mem_append, List.cons_append] at h ⊢
          rcases h with h | h
          · exact .inl h
          · exact .inr (ih _ _ _ h)
    simpa using hsz k (by rw [hts]; exact hmem _ _ _ _ hk)
  have hval' : ∀ (j : Nat) t v, ts[j]? = some t → args.toList[j]? = some v → Value.okWide C.prog W .any base t v := fun j t v h1 h2 => hval j t v (by rw [← hts] at h1; simpa using h1) (by simpa using h2)
  obtain ⟨l, g1, g2, g3⟩ := args_read hsh hA hval' hwt
  obtain ⟨_, hok⟩ := ok l g1
  refine (hok (Zold W) W args (fun a h => h.1) (fun a h => h.2) (by simpa using g2) (fun i x v h1 h2 => g3 i x v h1 (by simpa using h2))).mono fun e W' h => ?_
  obtain ⟨v, Z', rfl, _, bel, _, _, _, hr⟩ := h
  refine ⟨v, rfl, ?_⟩
  simp only [RetR] at hr
  have hvb : v = .bool true := hr.sc_inv.1
  subst hvb
  have hsp := hs ds (trodAll_len hA)
  refine ⟨ds, [], p ++ [], [], p, [], ?_, ?_, ?_, ?_, bel.frame _, fun h => by cases h⟩
  · simpa using hW'
  · rw [List.append_nil, hsp, hrt]
    exact ChangeShapes.trodAll_mk1 (shut_bool hb _)
  · rw [List.append_nil, hsp, hts]
    exact args_back laid bel hrd hA
  · rw [List.append_nil, hsp, hv]
    rfl
end Go.Vam

/- An abstract machine over data (part 19): lists of one's own that are laid aside where they stand; stores into them. -/
namespace Go.Vam
open Go.RowKit
set_option linter.unusedVariables false
set_option linter.unusedSimpArgs false

/-! ### 1. A list of one's own becomes data -/
def St.frz (S : St) (t b : Nat) (rs : List (List C)) : St := ⟨S.nt, (t, .c (.sl rs)) :: S.tm, S.bx, S.dead, b :: S.fz⟩
theorem Sim.freeze {E : En} {S : St} {Z : Zone} {β : Nat → Value} {a : Act} {w : World} (hs : Sim E S Z β a w) {b e sz : Nat} {rs : List (List C)} (hd : b ∉ S.dead) (hb : nthB S.bx b = some (.rows e sz rs)) :
    ∃ Z', Sim E { S with fz := b :: S.fz } Z' β a w ∧ Evo S.bx.length Z β Z' β w w ∧ CR Z' w (.sl rs) (β b) := by
  have hbl : b < S.bx.length := by rw [nthB_eq] at hb; exact (List.getElem?_eq_some_iff.1 hb).1
  have hl : ∀ b' ∈ [b], b' < S.bx.length ∧ b' ∉ S.dead := fun b' h => by
    rw [List.mem_singleton] at h
    subst h
    exact ⟨hbl, hd⟩
  have he := ZF.ext Z β (nthB S.bx) [b] w
  refine ⟨ZF Z β (nthB S.bx) [b], ⟨⟨(hs.wr.freeze [b] hl).mono (fun _ h => h) (fun _ h => h) (fun b' h => ?_) (fun _ _ => rfl), fun a h => .inl (hs.z0 a h), fun a h1 h2 => ?_, hs.tsz, fun t => (hs.tr t).ext he (fun _ h => ⟨h, rfl⟩), hs.df⟩, fun b' h => ?_, hs.dl⟩, ⟨he, fun _ _ => rfl, .refl _⟩, CR.ofOwn hs.wr ⟨hbl, hd⟩ hb (by simp)⟩
  · rcases h with h | h
    · exact List.mem_cons_of_mem _ h
    · rw [List.mem_singleton] at h; simp [h]
  · by_cases hz : Z a
    · exact hs.zn a hz h2
    · exact ZF_base hs.wr [b] hl a h1 hz
  · rcases List.mem_cons.1 h with h | h
    · rw [h]; exact hbl
    · exact hs.fl b' h
theorem Sim.frzT {E : En} {S : St} {Z : Zone} {β : Nat → Value} {a : Act} {w : World} (hs : Sim E S Z β a w) {t b e sz : Nat} {rs : List (List C)} (ht : look S.tm t = .own b) (hd : b ∉ S.dead) (hb : nthB S.bx b = some (.rows e sz rs)) :
    ∃ Z', Sim E (S.frz t b rs) Z' β a w ∧ Evo S.bx.length Z β Z' β w w := by
  obtain ⟨Z', h1, h2, h3⟩ := hs.freeze hd hb
  refine ⟨Z', ⟨⟨h1.wr, h1.z0, h1.zn, h1.tsz, fun t' => ?_, h1.df⟩, h1.fl, h1.dl⟩, h2⟩
  simp only [St.frz, look]
  split
  · rename_i e1
    subst e1
    have hA := hs.tr t
    simp only [ht] at hA
    have hv : a.tmps.getD t undef = β b := by
      generalize a.tmps.getD t undef = q at hA
      cases hA; rfl
    rw [hv]
    exact .c _ _ h3
  · exact h1.tr t'
theorem AWP.frzT {E : En} {c : Code} {S : St} {Q : Exit → St → Prop} (t b : Nat) {e sz : Nat} {rs : List (List C)} (ht : look S.tm t = .own b) (hd : b ∉ S.dead) (hb : nthB S.bx b = some (.rows e sz rs)) (hn : E.n0 ≤ S.bx.length)
    (h : AWP E c (S.frz t b rs) Q) : AWP E c S Q := fun Z β a w hs => by
  obtain ⟨Z', h1, h2⟩ := hs.frzT ht hd hb
  exact wpIn_mono (h Z' β a w h1) fun e a' w' k => k.trans (h2.mono hn)
theorem OpK.frzT {E : En} {o : Oper} {S : St} {K : St → Prop} (t b : Nat) {e sz : Nat} {rs : List (List C)} (ht : look S.tm t = .own b) (hd : b ∉ S.dead) (hb : nthB S.bx b = some (.rows e sz rs)) (hn : E.n0 ≤ S.bx.length)
    (h : OpK E o (S.frz t b rs) K) : OpK E o S K := fun Z β a w hs => by
  obtain ⟨Z', h1, h2⟩ := hs.frzT ht hd hb
  exact (h Z' β a w h1).mono fun v w' k => k.trans (h2.mono hn)
/-- A list of one's own in a box's cell becomes data. -/
theorem AWP.frzC {E : En} {c : Code} {S : St} {Q : Exit → St → Prop} (b0 k b : Nat) {e sz : Nat} {rs : List (List C)} {cs : List AV} (hb0 : nthB S.bx b0 = some (.cells cs)) (hk : cs[k]? = some (.own b)) (hd : b ∉ S.dead) (hb : nthB S.bx b = some (.rows e sz rs)) (hn : E.n0 ≤ S.bx.length)
    (h : AWP E c ⟨S.nt, S.tm, setBx S.bx b0 (.cells (cs.set k (.c (.sl rs)))), S.dead, b :: S.fz⟩ Q) : AWP E c S Q := fun Z β a w hs => by
  obtain ⟨Z', h1, h2, h3⟩ := hs.freeze hd hb
  have hb0l : b0 < S.bx.length := by rw [nthB_eq] at hb0; exact (List.getElem?_eq_some_iff.1 hb0).1
  have hS := h1.rebox (bx' := setBx S.bx b0 (.cells (cs.set k (.c (.sl rs))))) (by simp [setBx_eq]) (fun b' hb' hd' => by
    obtain ⟨x, hx, hB⟩ := h1.wr.box b' ⟨hb', hd'⟩
    by_cases hbb : b' = b0
    · subst hbb
      have hxe : x = .cells cs := by
        rw [hb0] at hx
        exact (Option.some.inj hx).symm
      subst hxe
      refine ⟨.cells (cs.set k (.c (.sl rs))), by rw [nthB_eq, setBx_eq, List.getElem?_set_self hb0l], ?_⟩
      cases hB with
      | cells _ g arr t hv hg hh hl hc hz =>
        refine .cells _ g arr t hv hg hh (by simpa using hl) (fun i y v e1 e2 => ?_) hz
        by_cases hik : k = i
        · subst hik
          have hkl : k < cs.length := (List.getElem?_eq_some_iff.1 hk).1
          rw [List.getElem?_set_self hkl] at e1
          simp only [Option.some.injEq] at e1
          subst e1
          have hA := hc k _ v hk e2
          have hv : v = β b := by cases hA; rfl
          rw [hv]
          exact .c _ _ h3
        · rw [List.getElem?_set_ne hik] at e1
          exact hc i y v e1 e2
    · refine ⟨x, ?_, hB⟩
      rw [nthB_eq] at hx ⊢
      rw [setBx_eq, List.getElem?_set_ne (fun e => hbb e.symm)]
      exact hx)
  exact wpIn_mono (h Z' β a w hS) fun e a' w' k => k.trans (h2.mono hn)

section
variable {E : En} {Q : Exit → St → Prop} {o : Oper} {l : List Oper} {ds : List (Option Nat)} {dr : Dr} {ks : List Fr} {S : St}
theorem Go.frzT {c : Code} (t b : Nat) {e sz : Nat} {rs : List (List C)} (ht : look S.tm t = .own b) (hb : nthB S.bx b = some (.rows e sz rs)) (hd : memB b S.dead = false)
    (h : Go E Q (.code c :: ks) (S.frz t b rs)) : Go E Q (.code c :: ks) S := fun hn => AWP.frzT t b ht (memB_not (by rw [hd]; simp)) hb hn (h hn)
theorem Go.frzC {c : Code} (b0 k b : Nat) {e sz : Nat} {rs : List (List C)} {cs : List AV} (hb0 : nthB S.bx b0 = some (.cells cs)) (hk : nthX cs k = some (.own b)) (hb : nthB S.bx b = some (.rows e sz rs)) (hd : memB b S.dead = false)
    (h : Go E Q (.code c :: ks) ⟨S.nt, S.tm, setBx S.bx b0 (.cells (cs.set k (.c (.sl rs)))), S.dead, b :: S.fz⟩) : Go E Q (.code c :: ks) S := fun hn =>
  AWP.frzC b0 k b hb0 (by rw [← nthX_eq]; exact hk) (memB_not (by rw [hd]; simp)) hb hn (h (by simpa [setBx_eq] using hn))
theorem Go.frzO {o : Oper} {l : List Oper} (t b : Nat) {e sz : Nat} {rs : List (List C)} (ht : look S.tm t = .own b) (hb : nthB S.bx b = some (.rows e sz rs)) (hd : memB b S.dead = false)
    (h : Go E Q (.ops 1 (o :: l) ds none :: ks) (S.frz t b rs)) : Go E Q (.ops 1 (o :: l) ds none :: ks) S := fun hn => by
  obtain ⟨r, h1, h2, h3⟩ := h hn
  exact ⟨r, h1, fun hr => OpK.frzT t b ht (memB_not (by rw [hd]; simp)) hb hn (h2 hr), fun hr => by simp only at h1; rw [h1] at hr; simp at hr⟩
/-- A piece of a list that is laid aside. -/
theorem SlcO.frz (hE : EOk E) {b e sz : Nat} {rs : List (List C)} {h : Int} (n t : Nat) (ht : look S.tm t = .own b) (hb : nthB S.bx b = some (.rows e sz rs)) (hd : memB b S.dead = false)
    (k : evF E Q n (.ops 1 (o :: l) ds none :: ks) (S.frz t b rs)) : SlcO E Q o l ds none ks S b e sz rs h := fun _ _ => Go.frzO t b ht hb hd (evF_sound hE n _ _ k)
theorem HardOp.frz (hE : EOk E) {b e sz : Nat} {rs : List (List C)} (n t : Nat) (ht : look S.tm t = .own b) (hb : nthB S.bx b = some (.rows e sz rs)) (hd : memB b S.dead = false)
    (k : evF E Q n (.ops 1 (o :: l) ds none :: ks) (S.frz t b rs)) : HardOp E Q o l ds none ks S := fun _ => Go.frzO t b ht hb hd (evF_sound hE n _ _ k)

/-! ### 2. A store into a list of one's own -/
theorem StG.byO (hE : EOk E) {tt' : TT} (ht : E.tt = tt') {t : Nat} {y : AV} {b off e sz j : Nat} {i : TyI} {rs : List (List C)} {row m : List C} (n : Nat) (hti : tt' t = some i) (hd : memB b S.dead = false) (hfz : memB b S.fz = false) (hb : nthB S.bx b = some (.rows e sz rs))
    (hm : rowOf y = some m) (hr : rs[j]? = some row) (hml : m.length = i.n) (hj : j * sz ≤ off) (hl : off - j * sz + i.n ≤ row.length)
    (k : evF E Q n (.ops 0 l ds none :: ks) (S.setB o.dst b (.rows e sz (rs.set j (row.take (off - j * sz) ++ m ++ row.drop (off - j * sz + m.length)))))) : StG E Q o l ds none ks S t (.optr b off) y := fun hf hdst hn => by
  obtain ⟨xo, yo, hop, hx, hy⟩ := hf
  exact HardOp.opK (K := fun S' => S' = S.setB o.dst b (.rows e sz (rs.set j (row.take (off - j * sz) ++ m ++ row.drop (off - j * sz + m.length)))))
    (OpK.storeOptr hE.hT hop hn hdst (by rw [ht]; exact hti) hx (memB_not (by rw [hd]; simp)) (memB_not (by rw [hfz]; simp)) hb (by rw [hy]; exact hm) hr hml hj hl rfl) (fun S' e => by subst e; exact evF_sound hE n _ _ k) hn
theorem StG.byOD (hE : EOk E) {tt' : TT} (ht : E.tt = tt') {all : Array Oper} {acc : List TrK} {t : Nat} {y : AV} {b off e sz j : Nat} {i : TyI} {rs : List (List C)} {row m : List C} (n : Nat) (hti : tt' t = some i) (hd : memB b (fin acc S).dead = false) (hfz : memB b (fin acc S).fz = false) (hb : nthB (fin acc S).bx b = some (.rows e sz rs))
    (hm : rowOf y = some m) (hr : rs[j]? = some row) (hml : m.length = i.n) (hj : j * sz ≤ off) (hl : off - j * sz + i.n ≤ row.length) (hdw : drawOk all (acc ++ [.st]) = true)
    (k : evF E Q n ks ((fin acc S).setB o.dst b (.rows e sz (rs.set j (row.take (off - j * sz) ++ m ++ row.drop (off - j * sz + m.length)))))) : StG E Q o [] ds (some (all, acc)) ks S t (.optr b off) y := fun hf hdst hn => by
  obtain ⟨xo, yo, hop, hx, hy⟩ := hf
  exact HardOp.opKd (K := fun S' => S' = (fin acc S).setB o.dst b (.rows e sz (rs.set j (row.take (off - j * sz) ++ m ++ row.drop (off - j * sz + m.length)))))
    (OpK.storeOptr hE.hT hop (by rw [(fin_nt acc S).2.2.2.2]; exact hn) (by rw [(fin_nt acc S).1]; exact hdst) (by rw [ht]; exact hti) (by rw [(fin_nt acc S).2.1]; exact hx) (memB_not (by rw [hd]; simp)) (memB_not (by rw [hfz]; simp)) hb (by rw [(fin_nt acc S).2.1, hy]; exact hm) hr hml hj hl rfl) hdw (fun S' e => by subst e; exact evF_sound hE n _ _ k) hn
/-- A store into a list of one's own, in a region that draws; others may follow. -/
theorem StG.byXO (hE : EOk E) {tt' : TT} (ht : E.tt = tt') {all : Array Oper} {acc : List TrK} {t : Nat} {y : AV} {b off e sz j : Nat} {i : TyI} {rs : List (List C)} {row m : List C} (n : Nat) (hdn : o.dst = none) (hti : tt' t = some i) (hd : memB b S.dead = false) (hfz : memB b S.fz = false) (hb : nthB (fin acc S).bx b = some (.rows e sz rs))
    (hm : rowOf y = some m) (hr : rs[j]? = some row) (hml : m.length = i.n) (hj : j * sz ≤ off) (hl : off - j * sz + i.n ≤ row.length)
    (k : evF E Q n (.ops 0 l ds (some (all, acc ++ [.sx b (.rows e sz (rs.set j (row.take (off - j * sz) ++ m ++ row.drop (off - j * sz + m.length))))])) :: ks) S) : StG E Q o l ds (some (all, acc)) ks S t (.optr b off) y := fun hf hdst hn => by
  obtain ⟨xo, yo, hop, hx, hy⟩ := hf
  have hg := evF_sound hE n _ _ k hn
  refine ⟨true, rfl, fun _ => .inr (.inr ⟨b, _, ?_, hg⟩), by simp⟩
  exact ⟨hdn, memB_not (by rw [hd]; simp), memB_not (by rw [hfz]; simp), t, xo, yo, i, _, hop, by rw [ht]; exact hti, hb, .inr (.inl ⟨off, e, sz, j, rs, row, m, hx, rfl, by rw [hy]; exact hm, hr, hml, hj, hl, rfl⟩)⟩
/-- A list of one's own is stored into a box, in a region that draws; others may follow. -/
theorem StG.byXW (hE : EOk E) {tt' : TT} (ht : E.tt = tt') {all : Array Oper} {acc : List TrK} {t : Nat} {b off b' e sz : Nat} {i : TyI} {cs : List AV} {rs : List (List C)} (n : Nat) (hdn : o.dst = none) (hti : tt' t = some i) (hd : memB b S.dead = false) (hfz : memB b S.fz = false) (hb : nthB (fin acc S).bx b = some (.cells cs))
    (hd' : memB b' S.dead = false) (hb' : nthB S.bx b' = some (.rows e sz rs)) (hn1 : i.n = 1) (hl : hasN cs (off + i.n) = true)
    (k : evF E Q n (.ops 0 l ds (some (all, acc ++ [.sx b (.cells (takeN off cs ++ [.own b'] ++ dropN (off + 1) cs))])) :: ks) S) : StG E Q o l ds (some (all, acc)) ks S t (.ptr b off) (.own b') := fun hf hdst hn => by
  obtain ⟨xo, yo, hop, hx, hy⟩ := hf
  have hg := evF_sound hE n _ _ k hn
  refine ⟨true, rfl, fun _ => .inr (.inr ⟨b, _, ?_, hg⟩), by simp⟩
  exact ⟨hdn, memB_not (by rw [hd]; simp), memB_not (by rw [hfz]; simp), t, xo, yo, i, _, hop, by rw [ht]; exact hti, hb, .inr (.inr ⟨off, cs, b', e, sz, rs, hx, rfl, hy, memB_not (by rw [hd']; simp), hb', hn1, hasN_spec _ _ hl, by rw [takeN_eq, dropN_eq]⟩)⟩
end
end Go.Vam

/- An abstract machine over data (part 20): small laws of the run, under one name. -/
namespace Go.Vam
open Go.RowKit
theorem evL :
    (∀ (α : Type) (a : α), (a ∈ ([] : List α)) = False) ∧ (∀ (α : Type) (a b : α) (l : List α), (a ∈ b :: l) = (a = b ∨ a ∈ l)) ∧
    (∀ (α : Type) (l : List α), l.toArray.toList = l) ∧ (∀ (α : Type) (a : α) (l : List α), (a :: l).length = l.length + 1) ∧ (∀ (α : Type), ([] : List α).length = 0) ∧
    (∀ (α : Type) (a : α) (l m : List α), (a :: l) ++ m = a :: (l ++ m)) ∧ (∀ (α : Type) (m : List α), [] ++ m = m) ∧ (∀ (α : Type) (m : List α), m ++ [] = m) ∧
    (∀ (α : Type) (a : α) (l : List α) (i : Nat), (a :: l)[i + 1]? = l[i]?) ∧ (∀ (α : Type) (a : α) (l : List α), (a :: l)[0]? = some a) ∧
    (∀ (α β : Type) (f : α → β) (a : α) (l : List α), (a :: l).map f = f a :: l.map f) ∧ (∀ (α β : Type) (f : α → β), ([] : List α).map f = []) ∧ (∀ (α β : Type) (f : α → β) (l : List α), (l.map f).length = l.length) ∧
    (∀ (α β : Type) (f : α → β) (a : α), (some a).map f = some (f a)) ∧ (∀ (α : Type) (a : α), (none : Option α).getD a = a) ∧ (∀ (α : Type) (a b : α), (some b).getD a = b) ∧
    (∀ (α : Type) (a : α) (l : List α) (i : Nat), (a :: l).take (i + 1) = a :: l.take i) ∧ (∀ (α : Type) (l : List α), l.take 0 = []) ∧ (∀ (α : Type) (i : Nat), ([] : List α).take i = []) ∧
    (∀ (α : Type) (a : α) (l : List α) (i : Nat), (a :: l).drop (i + 1) = l.drop i) ∧ (∀ (α : Type) (l : List α), l.drop 0 = l) ∧ (∀ (α : Type) (i : Nat), ([] : List α).drop i = []) ∧
    (∀ (α : Type) (a b : α) (l : List α), (a :: l).set 0 b = b :: l) ∧ (∀ (α : Type) (a b : α) (l : List α) (i : Nat), (a :: l).set (i + 1) b = a :: l.set i b) ∧
    (∀ b : Bool, (true && b) = b) ∧ (∀ b : Bool, (b && true) = b) ∧ (∀ b : Bool, (false && b) = false) ∧ (∀ b : Bool, (b && false) = false) ∧ ((!true) = false) ∧ ((!false) = true) ∧
    (∀ b : Bool, (b == true) = b) ∧ (∀ b : Bool, (b == false) = !b) ∧ (∀ (n : Nat), 0 * n = 0) ∧ (∀ (n : Nat), (0 ≤ n) = True) ∧ (∀ (n : Nat), 0 + n = n) ∧ (∀ (n : Nat), n + 0 = n) := by
  refine ⟨?_, ?_, ?_, ?_, ?_, ?_, ?_, ?_, ?_, ?_, ?_, ?_, ?_, ?_, ?_, ?_, ?_, ?_, ?_, ?_, ?_, ?_, ?_, ?_, ?_, ?_, ?_, ?_, ?_, ?_, ?_, ?_, ?_, ?_, ?_, ?_⟩ <;> intros <;> simp
end Go.Vam
