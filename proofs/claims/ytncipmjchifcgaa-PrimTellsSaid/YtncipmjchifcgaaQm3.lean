/- The program's data, as it comes in. -/
import Derived.Test.YtncipmjchifcgaaQm2
import Derived.Test.YtncipmjchifcgaaVam19
namespace Go.Qm
open Go.RowKit Go.Vam
set_option linter.unusedSimpArgs false
set_option linter.unusedVariables false

structure File where
  name : Str
  lines : List Str
structure Id where
  who : Int
  no : Int
structure Named where
  id : Id
  deps : List Id
  text : Str
  l : List Prim
abbrev fileC (f : File) : List C := [.sc (.string f.name), .sl (strsC f.lines)]
abbrev treeC (t : List File) : List (List C) := t.map fileC
abbrev idC (i : Id) : List C := [.sc (.int .i64 i.who), .sc (.int .i64 i.no)]
abbrev idsC (l : List Id) : List (List C) := l.map idC
abbrev namedC (p : Named) : List C := [.sc (.int .i64 p.id.who), .sc (.int .i64 p.id.no), .sl (idsC p.deps), .sc (.string p.text), .sl (primsC p.l)]
abbrev namedsC (l : List Named) : List (List C) := l.map namedC
abbrev fileA (f : File) : AV := .agg (fileC f)
abbrev treeA (t : List File) : AV := .c (.sl (treeC t))
abbrev idA (i : Id) : AV := .agg (idC i)
abbrev idsA (l : List Id) : AV := .c (.sl (idsC l))
abbrev namedA (p : Named) : AV := .agg (namedC p)
abbrev namedsA (l : List Named) : AV := .c (.sl (namedsC l))

abbrev Big : Nat := 140737488351232
abbrev strZ (s : Str) : Prop := s.size ≤ Big
abbrev strsZ (l : List Str) : Prop := ∀ s ∈ l, strZ s
structure fileB (f : File) : Prop where
  len : f.lines.length * 16 ≤ Big
  name : strZ f.name
  all : strsZ f.lines
abbrev treeB (t : List File) : Prop := t.length * 40 ≤ Big ∧ ∀ f ∈ t, fileB f
abbrev primsB (l : List Prim) : Prop := l.length * 96 ≤ Big ∧ ∀ p ∈ l, primB p
abbrev namedB (p : Named) : Prop := p.deps.length * 16 ≤ Big ∧ primsB p.l
abbrev namedsB (l : List Named) : Prop := l.length * 80 ≤ Big ∧ ∀ p ∈ l, namedB p
def i64 (n : Int) : Prop := -9223372036854775808 ≤ n ∧ n ≤ 9223372036854775807
structure hunkR (h : Hunk) : Prop where
  at_ : i64 h.at_
  old : strsZ h.old
  new : strsZ h.new
structure primR (p : Prim) : Prop where
  kind : i64 p.kind
  name : strZ p.name
  to : strZ p.to
  h : hunkR p.h
def idR (i : Id) : Prop := i64 i.who ∧ i64 i.no
def namedR (p : Named) : Prop := idR p.id ∧ (∀ i ∈ p.deps, idR i) ∧ ∀ q ∈ p.l, primR q

theorem i64_wf {n : Int} (h : (Lit.int .i64 n).wf = true) : i64 n := by
  simp [Lit.wf, IntKind.min, IntKind.max, IntKind.signed, IntKind.bits] at h
  unfold i64
  omega
abbrev strsSh : Sh := .sl 16 [.str]
abbrev primSh : List Sh := [.int .i64, .str, .str, .int .i64, strsSh, strsSh]
abbrev fileSh : List Sh := [.str, strsSh]
abbrev idSh : List Sh := [.int .i64, .int .i64]
abbrev namedSh : List Sh := [.int .i64, .int .i64, .sl 16 idSh, .str, .sl 96 primSh]
theorem rows_of {α : Type} {f : α → List C} {G : List C → Prop} {K : α → Prop} (h : ∀ row, G row → ∃ x, row = f x ∧ K x) : ∀ {rows : List (List C)}, (∀ row, row ∈ rows → G row) → ∃ xs : List α, rows = xs.map f ∧ ∀ x ∈ xs, K x
  | [], _ => ⟨[], rfl, by simp⟩
  | row :: rows, hr => by
    obtain ⟨x, rfl, hk⟩ := h row (hr row (by simp))
    obtain ⟨xs, rfl, hks⟩ := rows_of h (rows := rows) fun r h => hr r (by simp [h])
    exact ⟨x :: xs, rfl, by simpa using ⟨hk, hks⟩⟩
theorem fit_str {row : List C} (h : FitL [.str] row) : ∃ s : Str, row = strC s ∧ strZ s := by
  simp only [FitL, Fit] at h
  obtain ⟨c, r, rfl, ⟨s, rfl, hs⟩, rfl⟩ := h
  exact ⟨s, rfl, hs⟩
theorem fit_strs {c : C} (h : Fit strsSh c) : ∃ l : List Str, c = .sl (strsC l) ∧ l.length * 16 ≤ Big ∧ strsZ l := by
  simp only [Fit] at h
  obtain ⟨rows, rfl, hl, hr⟩ := h
  obtain ⟨xs, rfl, hz⟩ := rows_of (f := strC) (K := strZ) (fun row h => fit_str h) hr
  exact ⟨xs, rfl, by simpa using hl, hz⟩
theorem fit_prim {row : List C} (h : FitL primSh row) : ∃ p : Prim, row = primC p ∧ primB p ∧ primR p := by
  unfold primSh at h
  simp only [FitL] at h
  obtain ⟨c1, r1, rfl, ⟨k, rfl, hk⟩, c2, r2, rfl, ⟨s, rfl, z1⟩, c3, r3, rfl, ⟨s', rfl, z2⟩, c4, r4, rfl, ⟨n, rfl, hn⟩, c5, r5, rfl, h5, c6, r6, rfl, h6, rfl⟩ := h
  obtain ⟨l5, rfl, b5, z5⟩ := fit_strs h5
  obtain ⟨l6, rfl, b6, z6⟩ := fit_strs h6
  exact ⟨⟨k, s, s', ⟨n, l5, l6⟩⟩, rfl, ⟨by simp only [Big] at b5; simp only; omega, by simp only [Big] at b6; simp only; omega⟩, ⟨i64_wf hk, z1, z2, ⟨i64_wf hn, z5, z6⟩⟩⟩
theorem fit_file {row : List C} (h : FitL fileSh row) : ∃ f : File, row = fileC f ∧ fileB f := by
  unfold fileSh at h
  simp only [FitL] at h
  obtain ⟨c1, r1, rfl, ⟨s, rfl, z1⟩, c5, r5, rfl, h5, rfl⟩ := h
  obtain ⟨l5, rfl, b5, z5⟩ := fit_strs h5
  exact ⟨⟨s, l5⟩, rfl, ⟨b5, z1, z5⟩⟩
theorem fit_id {row : List C} (h : FitL idSh row) : ∃ i : Id, row = idC i ∧ idR i := by
  simp only [idSh, FitL, Fit] at h
  obtain ⟨c1, r1, rfl, ⟨a, rfl, ha⟩, c2, r2, rfl, ⟨b, rfl, hb⟩, rfl⟩ := h
  exact ⟨⟨a, b⟩, rfl, i64_wf ha, i64_wf hb⟩
theorem fit_sl {α : Type} {f : α → List C} {K : α → Prop} {by' : Nat} {sh : List Sh} (h : ∀ row, FitL sh row → ∃ x, row = f x ∧ K x) {c : C} (hc : Fit (.sl by' sh) c) : ∃ xs : List α, c = .sl (xs.map f) ∧ xs.length * by' ≤ Big ∧ ∀ x ∈ xs, K x := by
  simp only [Fit] at hc
  obtain ⟨rows, rfl, hl, hr⟩ := hc
  obtain ⟨xs, rfl, hk⟩ := rows_of h hr
  exact ⟨xs, rfl, by simpa using hl, hk⟩
theorem fit_named {row : List C} (h : FitL namedSh row) : ∃ p : Named, row = namedC p ∧ namedB p ∧ namedR p := by
  unfold namedSh at h
  simp only [FitL] at h
  obtain ⟨c1, r1, rfl, ⟨a, rfl, ha⟩, c2, r2, rfl, ⟨b, rfl, hb⟩, c3, r3, rfl, h3, c4, r4, rfl, ⟨s, rfl, _⟩, c5, r5, rfl, h5, rfl⟩ := h
  obtain ⟨ds, rfl, bd, rd⟩ := fit_sl (f := idC) (K := idR) (fun _ h => fit_id h) h3
  obtain ⟨ps, rfl, bp, rp⟩ := fit_sl (f := primC) (K := fun p => primB p ∧ primR p) (fun _ h => fit_prim h) h5
  exact ⟨⟨⟨a, b⟩, ds, s, ps⟩, rfl, ⟨bd, bp, fun p hp => (rp p hp).1⟩, ⟨i64_wf ha, i64_wf hb⟩, rd, fun p hp => (rp p hp).2⟩

/-! ### Arguments -/
section
variable {P : Program} {n : Nat} {t : TypeId} {ts : List TypeId} {l : List AV}
theorem arg_one {s : Sh} (hs : shOf P n t = some [s]) (hd : (P.underlying t).map descA = some false) (h : ArgsFit P n (t :: ts) l) : ∃ c l', l = .c c :: l' ∧ Fit s c ∧ ArgsFit P n ts l' := by
  obtain ⟨shs, row, l', h1, h2, rfl, h3⟩ := h
  rw [hs] at h1
  simp only [Option.some.injEq] at h1
  subst h1
  simp only [FitL] at h2
  obtain ⟨c, _, rfl, hf, rfl⟩ := h2
  refine ⟨c, l', ?_, hf, h3⟩
  unfold avOf
  rw [hd]
  rfl
theorem arg_agg {sh : List Sh} (hs : shOf P n t = some sh) (hd : (P.underlying t).map descA = some true) (h : ArgsFit P n (t :: ts) l) : ∃ row l', l = .agg row :: l' ∧ FitL sh row ∧ ArgsFit P n ts l' := by
  obtain ⟨shs, row, l', h1, h2, rfl, h3⟩ := h
  rw [hs] at h1
  simp only [Option.some.injEq] at h1
  subst h1
  refine ⟨row, l', ?_, h2, h3⟩
  unfold avOf
  rw [hd]
theorem arg_int (hs : shOf P n t = some [.int .i64]) (hd : (P.underlying t).map descA = some false) (h : ArgsFit P n (t :: ts) l) : ∃ k l', l = intA k :: l' ∧ i64 k ∧ ArgsFit P n ts l' := by
  obtain ⟨c, l', rfl, hf, h'⟩ := arg_one hs hd h
  obtain ⟨k, rfl, hk⟩ := hf
  exact ⟨k, l', rfl, i64_wf hk, h'⟩
theorem arg_str (hs : shOf P n t = some [.str]) (hd : (P.underlying t).map descA = some false) (h : ArgsFit P n (t :: ts) l) : ∃ s l', l = strA s :: l' ∧ s.size ≤ Big ∧ ArgsFit P n ts l' := by
  obtain ⟨c, l', rfl, hf, h'⟩ := arg_one hs hd h
  obtain ⟨k, rfl, hk⟩ := hf
  exact ⟨k, l', rfl, hk, h'⟩
theorem arg_prim (hs : shOf P n t = some primSh) (hd : (P.underlying t).map descA = some true) (h : ArgsFit P n (t :: ts) l) : ∃ p l', l = primA p :: l' ∧ primB p ∧ primR p ∧ ArgsFit P n ts l' := by
  obtain ⟨row, l', rfl, hf, h'⟩ := arg_agg hs hd h
  obtain ⟨p, rfl, h1, h2⟩ := fit_prim hf
  exact ⟨p, l', rfl, h1, h2, h'⟩
theorem arg_prims (hs : shOf P n t = some [.sl 96 primSh]) (hd : (P.underlying t).map descA = some false) (h : ArgsFit P n (t :: ts) l) : ∃ xs l', l = primsA xs :: l' ∧ primsB xs ∧ (∀ p ∈ xs, primR p) ∧ ArgsFit P n ts l' := by
  obtain ⟨c, l', rfl, hf, h'⟩ := arg_one hs hd h
  obtain ⟨xs, rfl, h1, h2⟩ := fit_sl (f := primC) (K := fun p => primB p ∧ primR p) (fun _ h => fit_prim h) hf
  exact ⟨xs, l', rfl, ⟨h1, fun p hp => (h2 p hp).1⟩, fun p hp => (h2 p hp).2, h'⟩
theorem arg_tree (hs : shOf P n t = some [.sl 40 fileSh]) (hd : (P.underlying t).map descA = some false) (h : ArgsFit P n (t :: ts) l) : ∃ xs l', l = treeA xs :: l' ∧ treeB xs ∧ ArgsFit P n ts l' := by
  obtain ⟨c, l', rfl, hf, h'⟩ := arg_one hs hd h
  obtain ⟨xs, rfl, h1, h2⟩ := fit_sl (f := fileC) (K := fileB) (fun _ h => fit_file h) hf
  exact ⟨xs, l', rfl, ⟨h1, h2⟩, h'⟩
theorem arg_id (hs : shOf P n t = some idSh) (hd : (P.underlying t).map descA = some true) (h : ArgsFit P n (t :: ts) l) : ∃ p l', l = idA p :: l' ∧ idR p ∧ ArgsFit P n ts l' := by
  obtain ⟨row, l', rfl, hf, h'⟩ := arg_agg hs hd h
  obtain ⟨p, rfl, h1⟩ := fit_id hf
  exact ⟨p, l', rfl, h1, h'⟩
theorem arg_ids (hs : shOf P n t = some [.sl 16 idSh]) (hd : (P.underlying t).map descA = some false) (h : ArgsFit P n (t :: ts) l) : ∃ xs l', l = idsA xs :: l' ∧ xs.length * 16 ≤ Big ∧ (∀ p ∈ xs, idR p) ∧ ArgsFit P n ts l' := by
  obtain ⟨c, l', rfl, hf, h'⟩ := arg_one hs hd h
  obtain ⟨xs, rfl, h1, h2⟩ := fit_sl (f := idC) (K := idR) (fun _ h => fit_id h) hf
  exact ⟨xs, l', rfl, h1, h2, h'⟩
theorem arg_named (hs : shOf P n t = some namedSh) (hd : (P.underlying t).map descA = some true) (h : ArgsFit P n (t :: ts) l) : ∃ p l', l = namedA p :: l' ∧ namedB p ∧ namedR p ∧ ArgsFit P n ts l' := by
  obtain ⟨row, l', rfl, hf, h'⟩ := arg_agg hs hd h
  obtain ⟨p, rfl, h1, h2⟩ := fit_named hf
  exact ⟨p, l', rfl, h1, h2, h'⟩
theorem arg_nameds (hs : shOf P n t = some [.sl 80 namedSh]) (hd : (P.underlying t).map descA = some false) (h : ArgsFit P n (t :: ts) l) : ∃ xs l', l = namedsA xs :: l' ∧ namedsB xs ∧ (∀ p ∈ xs, namedR p) ∧ ArgsFit P n ts l' := by
  obtain ⟨c, l', rfl, hf, h'⟩ := arg_one hs hd h
  obtain ⟨xs, rfl, h1, h2⟩ := fit_sl (f := namedC) (K := fun p => namedB p ∧ namedR p) (fun _ h => fit_named h) hf
  exact ⟨xs, l', rfl, ⟨h1, fun p hp => (h2 p hp).1⟩, fun p hp => (h2 p hp).2, h'⟩
theorem arg_end (h : ArgsFit P n [] l) : l = [] := h
end
end Go.Qm
