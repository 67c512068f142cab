/- Trees by their names: sorted lists of files and what they hold. -/
import Derived.Test.YtncipmjchifcgaaQm6
namespace Go.Qm
open Go.RowKit Go.Vam
set_option linter.unusedSimpArgs false
set_option linter.unusedVariables false

/-! ### Strings, one before the other -/
theorem toList_inj {a b : Str} (h : a.toList = b.toList) : a = b := by
  have h1 : (a.toList == b.toList) = true := by rw [h]; simp
  have h2 : (a == b) = true := by rw [beq_toListBytes]; exact h1
  rw [str_beq, decide_eq_true_eq] at h2
  exact h2
theorem bl_irr : ∀ l : List UInt8, Op.bytesLess l l = false
  | [] => rfl
  | a :: l => by simp [Op.bytesLess, bl_irr l]
theorem bl_trans : ∀ {a b c : List UInt8}, Op.bytesLess a b = true → Op.bytesLess b c = true → Op.bytesLess a c = true
  | _, [], _, h, _ => by simp [Op.bytesLess] at h
  | _, _ :: _, [], _, h => by simp [Op.bytesLess] at h
  | [], _ :: _, _ :: _, _, _ => rfl
  | a :: x, b :: y, c :: z, h1, h2 => by
    simp only [Op.bytesLess, Bool.or_eq_true, Bool.and_eq_true, decide_eq_true_eq, beq_iff_eq] at h1 h2 ⊢
    rcases h1 with h1 | ⟨rfl, h1⟩
    · rcases h2 with h2 | ⟨rfl, h2⟩
      · exact .inl (UInt8.lt_trans h1 h2)
      · exact .inl h1
    · rcases h2 with h2 | ⟨rfl, h2⟩
      · exact .inl h2
      · exact .inr ⟨rfl, bl_trans h1 h2⟩
theorem bl_total : ∀ (a b : List UInt8), Op.bytesLess a b = true ∨ a = b ∨ Op.bytesLess b a = true
  | [], [] => .inr (.inl rfl)
  | [], _ :: _ => .inl rfl
  | _ :: _, [] => .inr (.inr rfl)
  | a :: x, b :: y => by
    simp only [Op.bytesLess, Bool.or_eq_true, Bool.and_eq_true, decide_eq_true_eq, beq_iff_eq, List.cons.injEq]
    rcases Nat.lt_trichotomy a.toNat b.toNat with h | h | h
    · exact .inl (.inl (UInt8.lt_iff_toNat_lt.2 h))
    · have hab : a = b := UInt8.toNat.inj h
      subst hab
      rcases bl_total x y with h | h | h
      · exact .inl (.inr ⟨rfl, h⟩)
      · exact .inr (.inl ⟨rfl, h⟩)
      · exact .inr (.inr (.inr ⟨rfl, h⟩))
    · exact .inr (.inr (.inl (UInt8.lt_iff_toNat_lt.2 h)))
def ltS (a b : Str) : Prop := Op.bytesLess a.toList b.toList = true
theorem ltS_irr (a : Str) : ¬ ltS a a := by unfold ltS; rw [bl_irr]; simp
theorem ltS_trans {a b c : Str} (h1 : ltS a b) (h2 : ltS b c) : ltS a c := bl_trans h1 h2
theorem ltS_ne {a b : Str} (h : ltS a b) : a ≠ b := fun e => by subst e; exact ltS_irr _ h
theorem strLe_lt {a b : Str} : strLe a b = false ↔ ltS b a := by
  unfold strLe ltS
  rw [Bool.or_eq_false_iff]
  constructor
  · rintro ⟨h1, h2⟩
    rcases bl_total a.toList b.toList with h | h | h
    · rw [h] at h1; simp at h1
    · rw [toList_inj h, str_beq] at h2; simp at h2
    · exact h
  · intro h
    refine ⟨?_, ?_⟩
    · cases h' : Op.bytesLess a.toList b.toList with
      | false => rfl
      | true => have := bl_trans h h'; rw [bl_irr] at this; simp at this
    · rw [str_beq, decide_eq_false_iff_not]
      exact fun e => by subst e; rw [bl_irr] at h; simp at h
theorem gtN_iff {n : Str} {f : File} : gtN n f = true ↔ ltS n f.name := by
  unfold gtN
  rw [Bool.not_eq_true', strLe_lt]
theorem isN_iff {n : Str} {f : File} : isN n f = true ↔ f.name = n := by simp [isN]
theorem lt_cases (a b : Str) : ltS a b ∨ a = b ∨ ltS b a := by
  rcases bl_total a.toList b.toList with h | h | h
  · exact .inl h
  · exact .inr (.inl (toList_inj h))
  · exact .inr (.inr h)

/-! ### Trees that are sorted -/
def Srt (t : List File) : Prop := t.Pairwise fun a b => ltS a.name b.name
def tget (t : List File) (n : Str) : Option (List Str) := (t.find? (isN n)).map (·.lines)
theorem treeGet_tget (t : List File) (n : Str) : treeGet t n = ((tget t n).getD [], (tget t n).isSome) := by
  unfold treeGet tget
  cases t.find? (isN n) <;> rfl
theorem tget_nil (n : Str) : tget [] n = none := rfl
theorem tget_cons (f : File) (t : List File) (n : Str) : tget (f :: t) n = if f.name = n then some f.lines else tget t n := by
  unfold tget
  rw [List.find?_cons]
  by_cases h : f.name = n
  · rw [if_pos h, isN_iff.2 h]; rfl
  · rw [if_neg h, show isN n f = false by simp [isN, h]]
theorem tget_none {t : List File} {n : Str} : tget t n = none ↔ ∀ f ∈ t, f.name ≠ n := by
  simp [tget, isN]
theorem any_tget (t : List File) (n : Str) : t.any (isN n) = (tget t n).isSome := by
  unfold tget
  rw [Option.isSome_map, List.find?_isSome'] 
where
  List.find?_isSome' : (t.find? (isN n)).isSome = t.any (isN n) := by
    rw [Bool.eq_iff_iff, List.find?_isSome, List.any_eq_true]
theorem tget_mem {t : List File} {n : Str} {l : List Str} (h : tget t n = some l) : (⟨n, l⟩ : File) ∈ t := by
  unfold tget at h
  cases hf : t.find? (isN n) with
  | none => rw [hf] at h; simp at h
  | some f =>
    rw [hf] at h
    have h1 := List.find?_some hf
    have h2 := List.mem_of_find?_eq_some hf
    rw [isN_iff] at h1
    simp only [Option.map_some, Option.some.injEq] at h
    subst h1; subst h
    exact h2
def insT : List File → Str → List Str → List File
  | [], n, l => [⟨n, l⟩]
  | f :: t, n, l => if f.name = n then ⟨n, l⟩ :: t else if gtN n f = true then ⟨n, l⟩ :: f :: t else f :: insT t n l
def delT (n : Str) (t : List File) : List File := t.eraseP (isN n)
theorem treeDel_delT (t : List File) (n : Str) : treeDel t n = delT n t := by
  rw [treeDel_erase, delT]
  induction t with
  | nil => rfl
  | cons f t ih =>
    rw [List.findIdx_cons, List.eraseP_cons]
    cases h : isN n f
    · simp only [cond_false, List.eraseIdx_cons_succ, ih]
    · simp
theorem treePut_insT {t : List File} (hs : Srt t) (n : Str) (l : List Str) : treePut t n l = insT t n l := by
  induction t with
  | nil => rfl
  | cons f t ih =>
    obtain ⟨h1, h2⟩ := List.pairwise_cons.1 hs
    have ih := ih h2
    unfold treePut at ih ⊢
    rw [insT, List.any_cons, List.findIdx_cons, List.findIdx_cons]
    by_cases hf : f.name = n
    · rw [if_pos hf, show isN n f = true from isN_iff.2 hf]
      simp
    · rw [if_neg hf, show isN n f = false by simp [isN, hf], Bool.false_or]
      cases hg : gtN n f with
      | true =>
        have hno : t.any (isN n) = false := by
          rw [any_tget, Option.isSome_eq_false_iff, Option.isNone_iff_eq_none, tget_none]
          intro x hx e
          have := ltS_trans (gtN_iff.1 hg) (h1 x hx)
          exact ltS_ne this e.symm
        rw [hno, if_neg (by simp), if_pos rfl]
        simp
      | false =>
        rw [← ih]
        cases t.any (isN n) <;> simp
theorem mem_insT {t : List File} {n : Str} {l : List Str} {f : File} (h : f ∈ insT t n l) : f = ⟨n, l⟩ ∨ f ∈ t := by
  induction t with
  | nil => simpa [insT] using h
  | cons g t ih =>
    rw [insT] at h
    split at h
    · rcases List.mem_cons.1 h with h | h
      · exact .inl h
      · exact .inr (List.mem_cons_of_mem _ h)
    · split at h
      · rcases List.mem_cons.1 h with h | h
        · exact .inl h
        · exact .inr h
      · rcases List.mem_cons.1 h with h | h
        · exact .inr (by rw [h]; exact List.mem_cons_self)
        · rcases ih h with h | h
          · exact .inl h
          · exact .inr (List.mem_cons_of_mem _ h)
theorem insT_srt {t : List File} (hs : Srt t) (n : Str) (l : List Str) : Srt (insT t n l) := by
  induction t with
  | nil => simp [insT, Srt]
  | cons f t ih =>
    obtain ⟨h1, h2⟩ := List.pairwise_cons.1 hs
    rw [insT]
    split
    · rename_i hf
      exact List.pairwise_cons.2 ⟨fun x hx => by have := h1 x hx; rw [hf] at this; exact this, h2⟩
    · rename_i hf
      split
      · rename_i hg
        refine List.pairwise_cons.2 ⟨fun x hx => ?_, hs⟩
        rcases List.mem_cons.1 hx with rfl | hx
        · exact gtN_iff.1 hg
        · exact ltS_trans (gtN_iff.1 hg) (h1 x hx)
      · rename_i hg
        refine List.pairwise_cons.2 ⟨fun x hx => ?_, ih h2⟩
        rcases mem_insT hx with rfl | hx
        · rcases lt_cases f.name n with h | h | h
          · exact h
          · exact absurd h hf
          · exact absurd (gtN_iff.2 h) hg
        · exact h1 x hx
theorem delT_srt {t : List File} (hs : Srt t) (n : Str) : Srt (delT n t) := hs.sublist List.eraseP_sublist
theorem tget_insT {t : List File} (hs : Srt t) (n m : Str) (l : List Str) : tget (insT t n l) m = if n = m then some l else tget t m := by
  induction t with
  | nil => rw [insT, tget_cons]
  | cons f t ih =>
    obtain ⟨h1, h2⟩ := List.pairwise_cons.1 hs
    rw [insT]
    split
    · rename_i hf
      rw [tget_cons, tget_cons]
      simp only [hf]
      split <;> rfl
    · rename_i hf
      split
      · rw [tget_cons]
      · rw [tget_cons, ih h2, tget_cons]
        by_cases hm : f.name = m
        · rw [if_pos hm, if_neg (fun e => hf (hm.trans e.symm)), if_pos hm]
        · rw [if_neg hm, if_neg hm]
theorem tget_delT {t : List File} (hs : Srt t) (n m : Str) : tget (delT n t) m = if n = m then none else tget t m := by
  induction t with
  | nil => simp [delT, tget_nil]
  | cons f t ih =>
    obtain ⟨h1, h2⟩ := List.pairwise_cons.1 hs
    have ih := ih h2
    unfold delT at ih ⊢
    rw [List.eraseP_cons]
    by_cases hf : f.name = n
    · rw [show isN n f = true from isN_iff.2 hf, cond_true, tget_cons]
      by_cases hm : n = m
      · rw [if_pos hm, tget_none]
        intro x hx e
        have := ltS_ne (h1 x hx)
        rw [hf, hm, e] at this
        exact this rfl
      · rw [if_neg hm, if_neg (by rw [hf]; exact hm)]
    · rw [show isN n f = false by simp [isN, hf], cond_false, tget_cons, ih, tget_cons]
      by_cases hm : f.name = m
      · rw [if_pos hm, if_neg (fun e => hf (hm.trans e.symm)), if_pos hm]
      · rw [if_neg hm, if_neg hm]
/-- Sorted trees that hold the same are the same. -/
theorem srt_ext {t u : List File} (ht : Srt t) (hu : Srt u) (h : ∀ n, tget t n = tget u n) : t = u := by
  induction t generalizing u with
  | nil =>
    cases u with
    | nil => rfl
    | cons g u => have := h g.name; rw [tget_nil, tget_cons, if_pos rfl] at this; simp at this
  | cons f t ih =>
    cases u with
    | nil => have := h f.name; rw [tget_nil, tget_cons, if_pos rfl] at this; simp at this
    | cons g u =>
      obtain ⟨h1, h2⟩ := List.pairwise_cons.1 ht
      obtain ⟨k1, k2⟩ := List.pairwise_cons.1 hu
      have hfg : f.name = g.name := by
        rcases lt_cases f.name g.name with hl | hl | hl
        · have := h f.name
          rw [tget_cons, if_pos rfl, tget_cons, if_neg (fun e => ltS_ne hl e.symm)] at this
          have := tget_mem this.symm
          exact absurd (ltS_trans hl (k1 _ this)) (ltS_irr _)
        · exact hl
        · have := h g.name
          rw [tget_cons, if_neg (fun e => ltS_ne hl e.symm), tget_cons, if_pos rfl] at this
          have := tget_mem this
          exact absurd (ltS_trans hl (h1 _ this)) (ltS_irr _)
      have hl : f.lines = g.lines := by
        have := h f.name
        rw [tget_cons, if_pos rfl, tget_cons, if_pos hfg.symm] at this
        exact Option.some.inj this
      have hfe : f = g := by
        obtain ⟨a, b⟩ := f
        obtain ⟨c, d⟩ := g
        simp only at hfg hl
        rw [hfg, hl]
      subst hfe
      congr 1
      refine ih h2 k2 fun n => ?_
      by_cases hn : f.name = n
      · rw [tget_none.2 fun x hx e => ltS_ne (h1 x hx) (hn.trans e.symm), tget_none.2 fun x hx e => ltS_ne (k1 x hx) (hn.trans e.symm)]
      · have := h n
        rwa [tget_cons, if_neg hn, tget_cons, if_neg hn] at this
theorem treeMay_srt {t : List File} (h : treeMay t = true) : Srt t := by
  unfold treeMay at h
  rw [Bool.and_eq_true, List.all_eq_true] at h
  have hall : ∀ (i : Nat) (hi : i < t.length), fileMay t i t[i] = true := fun i hi => h.1 _ (List.mem_mapIdx.2 ⟨i, hi, rfl⟩)
  have hstep : ∀ (i : Nat) (hi : i + 1 < t.length), ltS t[i].name t[i + 1].name := fun i hi => by
    have := hall (i + 1) hi
    rw [fileMay, Bool.and_eq_true, Nat.add_sub_cancel, List.getElem?_eq_getElem (show i < t.length by omega)] at this
    have h2 := this.2
    simp only [Nat.zero_lt_succ, decide_true, Bool.true_and, Bool.not_eq_true', Option.map_some, Option.getD_some] at h2
    exact strLe_lt.1 h2
  unfold Srt
  rw [List.pairwise_iff_getElem]
  intro i j hi hj hij
  induction j with
  | zero => omega
  | succ j ih =>
    by_cases he : i = j
    · subst he; exact hstep i hj
    · exact ltS_trans (ih (by omega) (by omega)) (hstep j hj)
end Go.Qm
