/- Changes upon sorted trees: plain laws. -/
import Derived.Test.YtncipmjchifcgaaQm7
namespace Go.Qm
open Go.RowKit Go.Vam
set_option linter.unusedSimpArgs false
set_option linter.unusedVariables false

theorem atL_iff {a : List Str} {k : Int} {b : List Str} : atL a k b = true ↔ ∃ pre post, a = pre ++ b ++ post ∧ (pre.length : Int) = k := by
  unfold atL
  simp only [Bool.and_eq_true, decide_eq_true_eq, strsEq_iff]
  constructor
  · rintro ⟨h0, h1, h2, h3⟩
    refine ⟨a.take k.toNat, a.drop (k.toNat + b.length), ?_, by simp; omega⟩
    conv => lhs; rw [← List.take_append_drop k.toNat a, ← List.take_append_drop b.length (a.drop k.toNat), h3, List.drop_drop]
    rw [List.append_assoc]
  · rintro ⟨pre, post, rfl, rfl⟩
    refine ⟨by omega, by simp; omega, by simp; omega, ?_⟩
    simp
theorem swap_parts (pre b post c : List Str) : (pre ++ b ++ post).take ((pre.length : Int)).toNat ++ c ++ (pre ++ b ++ post).drop (((pre.length : Int)).toNat + b.length) = pre ++ c ++ post := by
  rw [Int.toNat_natCast]
  have h1 : (pre ++ b ++ post).take pre.length = pre := by rw [List.append_assoc, List.take_left]
  have h2 : (pre ++ b ++ post).drop (pre.length + b.length) = post := by rw [show pre.length + b.length = (pre ++ b).length by simp, List.drop_left]
  rw [h1, h2]
theorem applyH_parts {l : List Str} {h : Hunk} (h0 : (applyH l h).2 = 0) : hunkOk h = true ∧ ∃ pre post, l = pre ++ h.old ++ post ∧ (pre.length : Int) = h.at_ ∧ applyH l h = (pre ++ h.new ++ post, 0) := by
  unfold applyH at h0 ⊢
  by_cases ho : hunkOk h = true
  · rw [if_pos ho] at h0 ⊢
    by_cases ha : atL l h.at_ h.old = true
    · rw [if_pos ha]
      obtain ⟨pre, post, e1, e2⟩ := atL_iff.1 ha
      refine ⟨ho, pre, post, e1, e2, ?_⟩
      rw [e1, ← e2, swap_parts]
    · rw [if_neg ha] at h0; simp at h0
  · rw [if_neg ho] at h0; simp at h0
theorem applyH_of {l : List Str} {h : Hunk} {pre post : List Str} (ho : hunkOk h = true) (e1 : l = pre ++ h.old ++ post) (e2 : (pre.length : Int) = h.at_) : applyH l h = (pre ++ h.new ++ post, 0) := by
  unfold applyH
  rw [if_pos ho, if_pos (atL_iff.2 ⟨pre, post, e1, e2⟩), e1, ← e2, swap_parts]
theorem hunkOk_turn (h : Hunk) : hunkOk (turnH h) = hunkOk h := by
  unfold hunkOk turnH
  simp only
  cases decide (0 ≤ h.at_) <;> cases decide (h.at_ ≤ 1048576) <;> cases linesOk h.old <;> cases linesOk h.new <;> rfl
theorem applyH_back {l : List Str} {h : Hunk} (h0 : (applyH l h).2 = 0) : applyH (applyH l h).1 (turnH h) = (l, 0) := by
  obtain ⟨ho, pre, post, e1, e2, e3⟩ := applyH_parts h0
  have h2 := applyH_of (l := pre ++ h.new ++ post) (h := turnH h) (pre := pre) (post := post) (by rw [hunkOk_turn]; exact ho) rfl e2
  rw [e3]
  show applyH (pre ++ h.new ++ post) (turnH h) = _
  rw [h2, e1]
  rfl
theorem applyH_idle {l : List Str} {h : Hunk} (h0 : (applyH l h).2 = 0) (hi : h.old = h.new) : (applyH l h).1 = l := by
  obtain ⟨ho, pre, post, e1, e2, e3⟩ := applyH_parts h0
  rw [e3, e1, hi]

/-! ### The laws of one change -/
theorem apply_err {t : List File} {p : Prim} (h : (applyP t p).2 ≠ 0) : (applyP t p).1 = [] := by
  unfold applyP addT rmT moveT patchT setT at h ⊢
  repeat' split
  all_goals simp_all
theorem get2 {t : List File} {n : Str} : (treeGet t n).2 = true ↔ ∃ l, tget t n = some l := by
  rw [treeGet_tget]
  exact Option.isSome_iff_exists
theorem get2f {t : List File} {n : Str} : (treeGet t n).2 = false ↔ tget t n = none := by
  rw [treeGet_tget]
  simp
theorem get1 {t : List File} {n : Str} {l : List Str} (h : tget t n = some l) : (treeGet t n).1 = l := by rw [treeGet_tget, h]; rfl
/-- What a change does, by what the tree holds. -/
inductive Does (t : List File) (p : Prim) (u : List File) : Prop
  | add (hk : p.kind = 0) (h : tget t p.name = none) (hu : u = insT t p.name [])
  | rm (hk : p.kind = 1) (h : tget t p.name = some []) (hu : u = delT p.name t)
  | move (l : List Str) (hk : p.kind = 2) (h : tget t p.name = some l) (h2 : tget t p.to = none) (hne : p.name ≠ p.to) (hu : u = insT (delT p.name t) p.to l)
  | patch (l : List Str) (hk : p.kind = 3) (h : tget t p.name = some l) (h0 : (applyH l p.h).2 = 0) (hu : u = insT t p.name (applyH l p.h).1)
  | set (hk : p.kind = 4) (h : tget t p.name = some p.h.old) (hu : u = insT t p.name p.h.new)
theorem may_ne {p : Prim} (hm : mayP p = true) (hk : p.kind = 2) : p.name ≠ p.to := by
  unfold mayP at hm
  rw [if_neg (by omega), if_pos hk] at hm
  simp only [Bool.and_eq_true, Bool.not_eq_true', decide_eq_false_iff_not] at hm
  exact hm.1.2
theorem apply_does {t : List File} {p : Prim} (hs : Srt t) (h : (applyP t p).2 = 0) : mayP p = true ∧ Does t p (applyP t p).1 := by
  cases hm : mayP p with
  | false => unfold applyP at h; rw [hm] at h; simp at h
  | true =>
    refine ⟨rfl, ?_⟩
    have hk : p.kind = 0 ∨ p.kind = 1 ∨ p.kind = 2 ∨ p.kind = 3 ∨ p.kind = 4 := by
      unfold mayP at hm
      repeat' (split at hm)
      all_goals first | omega | simp at hm
    unfold applyP at h ⊢
    rw [hm] at h ⊢
    simp only [if_true] at h ⊢
    rcases hk with hk | hk | hk | hk | hk
    · rw [if_pos hk] at h ⊢
      unfold addT at h ⊢
      split at h
      · simp at h
      · rename_i hg
        rw [if_neg hg]
        exact .add hk (get2f.1 (by simpa using hg)) (treePut_insT hs _ _)
    · rw [if_neg (by omega), if_pos hk] at h ⊢
      unfold rmT at h ⊢
      split at h
      · rename_i hg
        rw [if_pos hg]
        obtain ⟨l, hl⟩ := get2.1 hg.1
        have h2 := hg.2
        rw [get1 hl] at h2
        rw [List.eq_nil_of_length_eq_zero h2] at hl
        exact .rm hk hl (treeDel_delT _ _)
      · simp at h
    · rw [if_neg (by omega), if_neg (by omega), if_pos hk] at h ⊢
      unfold moveT at h ⊢
      split at h
      · rename_i hg
        rw [if_pos hg]
        obtain ⟨l, hl⟩ := get2.1 hg.1
        refine .move l hk hl (get2f.1 hg.2) (may_ne hm hk) ?_
        simp only
        rw [get1 hl, treeDel_delT, treePut_insT (delT_srt hs _)]
      · simp at h
    · rw [if_neg (by omega), if_neg (by omega), if_neg (by omega), if_pos hk] at h ⊢
      unfold patchT at h ⊢
      split at h
      · rename_i hg
        rw [if_pos hg]
        obtain ⟨l, hl⟩ := get2.1 hg
        rw [get1 hl] at h ⊢
        split at h
        · rename_i h0
          rw [if_pos h0]
          exact .patch l hk hl h0 (treePut_insT hs _ _)
        · rename_i h0; exact absurd h h0
      · simp at h
    · rw [if_neg (by omega), if_neg (by omega), if_neg (by omega), if_neg (by omega)] at h ⊢
      unfold setT at h ⊢
      split at h
      · rename_i hg
        rw [if_pos hg]
        obtain ⟨l, hl⟩ := get2.1 hg.1
        have h2 := hg.2
        rw [get1 hl] at h2
        rw [h2] at hl
        exact .set hk hl (treePut_insT hs _ _)
      · simp at h
theorem does_apply {t : List File} {p : Prim} {u : List File} (hs : Srt t) (hm : mayP p = true) (h : Does t p u) : applyP t p = (u, 0) := by
  unfold applyP
  rw [if_pos hm]
  cases h with
  | add hk h hu => rw [if_pos hk, addT, if_neg (by rw [get2f.2 h]; simp), treePut_insT hs, hu]
  | rm hk h hu => rw [if_neg (by omega), if_pos hk, rmT, if_pos ⟨get2.2 ⟨_, h⟩, by rw [get1 h]; rfl⟩, treeDel_delT, hu]
  | move l hk h h2 hne hu => rw [if_neg (by omega), if_neg (by omega), if_pos hk, moveT, if_pos ⟨get2.2 ⟨_, h⟩, get2f.2 h2⟩, get1 h, treeDel_delT, treePut_insT (delT_srt hs _), hu]
  | patch l hk h h0 hu => rw [if_neg (by omega), if_neg (by omega), if_neg (by omega), if_pos hk, patchT, if_pos (get2.2 ⟨_, h⟩), get1 h, if_pos h0, treePut_insT hs, hu]
  | set hk h hu => rw [if_neg (by omega), if_neg (by omega), if_neg (by omega), if_neg (by omega), setT, if_pos ⟨get2.2 ⟨_, h⟩, get1 h⟩, treePut_insT hs, hu]
/-- What a tree holds behind a change. -/
def now (p : Prim) (t : List File) (n : Str) : Option (List Str) :=
  if p.kind = 0 then if p.name = n then some [] else tget t n
  else if p.kind = 1 then if p.name = n then none else tget t n
  else if p.kind = 2 then if p.to = n then tget t p.name else if p.name = n then none else tget t n
  else if p.kind = 3 then if p.name = n then (tget t n).map fun l => (applyH l p.h).1 else tget t n
  else if p.name = n then some p.h.new else tget t n
theorem does_srt {t : List File} {p : Prim} {u : List File} (hs : Srt t) (h : Does t p u) : Srt u := by
  cases h with
  | add hk h hu => rw [hu]; exact insT_srt hs _ _
  | rm hk h hu => rw [hu]; exact delT_srt hs _
  | move l hk h h2 hne hu => rw [hu]; exact insT_srt (delT_srt hs _) _ _
  | patch l hk h h0 hu => rw [hu]; exact insT_srt hs _ _
  | set hk h hu => rw [hu]; exact insT_srt hs _ _
theorem does_now {t : List File} {p : Prim} {u : List File} (hs : Srt t) (h : Does t p u) (n : Str) : tget u n = now p t n := by
  unfold now
  cases h with
  | add hk h hu => rw [if_pos hk, hu, tget_insT hs]
  | rm hk h hu => rw [if_neg (by omega), if_pos hk, hu, tget_delT hs]
  | move l hk h h2 hne hu =>
    rw [if_neg (by omega), if_neg (by omega), if_pos hk, hu, tget_insT (delT_srt hs _), tget_delT hs, h]
  | patch l hk h h0 hu =>
    rw [if_neg (by omega), if_neg (by omega), if_neg (by omega), if_pos hk, hu, tget_insT hs]
    by_cases hn : p.name = n
    · rw [if_pos hn, if_pos hn, ← hn, h]; rfl
    · rw [if_neg hn, if_neg hn]
  | set hk h hu => rw [if_neg (by omega), if_neg (by omega), if_neg (by omega), if_neg (by omega), hu, tget_insT hs]
/-- What a change changes it changes back, turned. -/
theorem turnP_kind (p : Prim) : (turnP p).kind = if p.kind = 0 then 1 else if p.kind = 1 then 0 else p.kind := by
  unfold turnP
  repeat' split
  all_goals simp_all
theorem mayP_turn (p : Prim) : mayP (turnP p) = mayP p := by
  obtain ⟨k, n, m, h⟩ := p
  by_cases h0 : k = 0
  · subst h0; rfl
  by_cases h1 : k = 1
  · subst h1; rfl
  by_cases h2 : k = 2
  · subst h2
    have e : turnP ⟨2, n, m, h⟩ = ⟨2, m, n, h⟩ := rfl
    rw [e, mayP, mayP]
    simp only
    rw [show decide (m = n) = decide (n = m) by rw [decide_eq_decide]; exact eq_comm, Bool.and_comm (nameOk m)]
    rfl
  by_cases h3 : k = 3
  · subst h3
    have e : turnP ⟨3, n, m, h⟩ = ⟨3, n, m, turnH h⟩ := rfl
    rw [e, mayP, mayP]
    simp only [hunkOk_turn]
    rfl
  by_cases h4 : k = 4
  · subst h4
    have e : turnP ⟨4, n, m, h⟩ = ⟨4, n, m, turnH h⟩ := rfl
    rw [e, mayP, mayP]
    simp only [hunkOk_turn]
    rfl
  · have e : turnP ⟨k, n, m, h⟩ = ⟨k, n, m, turnH h⟩ := by unfold turnP; rw [if_neg h0, if_neg h1, if_neg h2]
    rw [e, mayP, mayP]
    simp [h0, h1, h2, h3, h4]
theorem does_back {t : List File} {p : Prim} {u : List File} (hs : Srt t) (h : Does t p u) : Does u (turnP p) t := by
  have hu' := does_srt hs h
  have hn := does_now hs h
  obtain ⟨k, n, m, h'⟩ := p
  cases h with
  | add hk h hu =>
    simp only at hk
    subst hk
    refine .rm (p := turnP ⟨0, n, m, h'⟩) rfl ?_ (srt_ext hs (delT_srt hu' _) fun x => ?_)
    · show tget u n = _
      rw [hn]; simp [now]
    · show tget t x = tget (delT n u) x
      rw [tget_delT hu', hn]
      by_cases hx : n = x
      · subst hx; simp [h]
      · simp [now, hx]
  | rm hk h hu =>
    simp only at hk
    subst hk
    refine .add (p := turnP ⟨1, n, m, h'⟩) rfl ?_ (srt_ext hs (insT_srt hu' _ _) fun x => ?_)
    · show tget u n = _
      rw [hn]; simp [now]
    · show tget t x = tget (insT u n []) x
      rw [tget_insT hu', hn]
      by_cases hx : n = x
      · subst hx; simp [h]
      · simp [now, hx]
  | move l hk h h2 hne hu =>
    simp only at hk h h2 hne
    subst hk
    refine .move (p := turnP ⟨2, n, m, h'⟩) l rfl ?_ ?_ (fun e => hne e.symm) (srt_ext hs (insT_srt (delT_srt hu' _) _ _) fun x => ?_)
    · show tget u m = _
      rw [hn]; simp [now, h]
    · show tget u n = _
      rw [hn]; simp [now, Ne.symm hne]
    · show tget t x = tget (insT (delT m u) n l) x
      rw [tget_insT (delT_srt hu' _), tget_delT hu', hn]
      by_cases hx : n = x
      · subst hx; simp [h]
      · by_cases hx2 : m = x
        · subst hx2; simp [hx, h2]
        · simp [now, hx, hx2]
  | patch l hk h h0 hu =>
    simp only at hk h h0
    subst hk
    have hb := applyH_back h0
    have hg : tget u n = some (applyH l h').1 := by rw [hn]; simp [now, h]
    refine .patch (p := turnP ⟨3, n, m, h'⟩) (applyH l h').1 rfl hg ?_ (srt_ext hs (insT_srt hu' _ _) fun x => ?_)
    · show (applyH (applyH l h').1 (turnH h')).2 = 0
      rw [hb]
    · show tget t x = tget (insT u n (applyH (applyH l h').1 (turnH h')).1) x
      rw [hb, tget_insT hu', hn]
      by_cases hx : n = x
      · subst hx; simp [h]
      · simp [now, hx]
  | set hk h hu =>
    simp only at hk h
    subst hk
    refine .set (p := turnP ⟨4, n, m, h'⟩) rfl ?_ (srt_ext hs (insT_srt hu' _ _) fun x => ?_)
    · show tget u n = some h'.new
      rw [hn]; simp [now]
    · show tget t x = tget (insT u n h'.old) x
      rw [tget_insT hu', hn]
      by_cases hx : n = x
      · subst hx; simp [h]
      · simp [now, hx]
theorem apply_back {t : List File} {p : Prim} (hs : Srt t) (h : (applyP t p).2 = 0) : applyP (applyP t p).1 (turnP p) = (t, 0) := by
  obtain ⟨hm, hd⟩ := apply_does hs h
  exact does_apply (does_srt hs hd) (by rw [mayP_turn]; exact hm) (does_back hs hd)
theorem apply_srt {t : List File} {p : Prim} (hs : Srt t) (h : (applyP t p).2 = 0) : Srt (applyP t p).1 := does_srt hs (apply_does hs h).2
theorem apply_now {t : List File} {p : Prim} (hs : Srt t) (h : (applyP t p).2 = 0) (n : Str) : tget (applyP t p).1 n = now p t n := does_now hs (apply_does hs h).2 n
theorem idle_iff {p : Prim} (h : idleP p = true) : (p.kind = 3 ∨ p.kind = 4) ∧ p.h.old = p.h.new := by
  simpa [idleP, strsEq_iff] using h
theorem apply_idle {t : List File} {p : Prim} (hs : Srt t) (h : (applyP t p).2 = 0) (hi : idleP p = true) : (applyP t p).1 = t := by
  obtain ⟨hk, he⟩ := idle_iff hi
  obtain ⟨hm, hd⟩ := apply_does hs h
  refine srt_ext (apply_srt hs h) hs fun x => ?_
  rw [apply_now hs h]
  cases hd with
  | add hk' h hu => omega
  | rm hk' h hu => omega
  | move l hk' h h2 hne hu => omega
  | patch l hk' h h0 hu =>
    by_cases hx : p.name = x
    · subst hx; simp [now, hk', h, applyH_idle h0 he]
    · simp [now, hk', hx]
  | set hk' h hu =>
    by_cases hx : p.name = x
    · subst hx; simp [now, hk', h, he]
    · simp [now, hk', hx]
theorem apply_once {t : List File} {p : Prim} (hs : Srt t) (h : (applyP t p).2 = 0) (hk : p.kind ≤ 2) : applyP (applyP t p).1 p = ([], 5) := by
  obtain ⟨hm, hd⟩ := apply_does hs h
  have hn := apply_now hs h p.name
  generalize (applyP t p).1 = u at hn hd
  cases hd with
  | add hk' h hu =>
    have hg : tget u p.name = some [] := by rw [hn]; simp [now, hk']
    rw [applyP, if_pos hm, if_pos hk', addT, if_pos (get2.2 ⟨_, hg⟩)]
  | rm hk' h hu =>
    have hg : tget u p.name = none := by rw [hn]; simp [now, hk']
    rw [applyP, if_pos hm, if_neg (by omega), if_pos hk', rmT, if_neg (by rw [get2f.2 hg]; simp)]
  | move l hk' h h2 hne hu =>
    have hg : tget u p.name = none := by rw [hn]; simp [now, hk', Ne.symm hne]
    rw [applyP, if_pos hm, if_neg (by omega), if_neg (by omega), if_pos hk', moveT, if_neg (by rw [get2f.2 hg]; simp)]
  | patch l hk' h h0 hu => omega
  | set hk' h hu => omega
theorem apply_keeps {t : List File} {p : Prim} (hs : Srt t) (h : (applyP t p).2 = 0) {n : Str} (h1 : n ≠ p.name) (h2 : n ≠ p.to) : tget (applyP t p).1 n = tget t n := by
  rw [apply_now hs h]
  simp [now, Ne.symm h1, Ne.symm h2]
theorem fileEq_iff {a b : File} : fileEq a b = true ↔ a = b := by
  obtain ⟨a1, a2⟩ := a
  obtain ⟨b1, b2⟩ := b
  simp [fileEq, strsEq_iff]
theorem treeEq_iff : ∀ {a b : List File}, treeEq a b = true ↔ a = b
  | [], [] => by simp [treeEq, all2]
  | [], _ :: _ => by simp [treeEq, all2]
  | _ :: _, [] => by simp [treeEq, all2]
  | x :: a, y :: b => by
    have := treeEq_iff (a := a) (b := b)
    unfold treeEq at this ⊢
    rw [all2, Bool.and_eq_true, fileEq_iff, this]
    simp
theorem treeEq_refl (a : List File) : treeEq a a = true := treeEq_iff.2 rfl
theorem turnP_R {p : Prim} (h : primR p) : primR (turnP p) := by
  obtain ⟨h1, h2, h3, h4⟩ := h
  unfold turnP
  repeat' split
  · exact ⟨by simp [i64], h2, h3, h4⟩
  · exact ⟨by simp [i64], h2, h3, h4⟩
  · exact ⟨h1, h3, h2, h4⟩
  · exact ⟨h1, h2, h3, ⟨h4.at_, h4.new, h4.old⟩⟩

/-! ### How great a tree becomes -/
def treeN (a b : Nat) (t : List File) : Prop := t.length ≤ a ∧ ∀ f ∈ t, f.lines.length ≤ b ∧ strZ f.name ∧ strsZ f.lines
theorem treeN.B {a b : Nat} {t : List File} (h : treeN a b t) (ha : a * 40 ≤ Big) (hb : b * 16 ≤ Big) : treeB t :=
  ⟨Nat.le_trans (Nat.mul_le_mul_right _ h.1) ha, fun f hf => ⟨Nat.le_trans (Nat.mul_le_mul_right _ (h.2 f hf).1) hb, (h.2 f hf).2.1, (h.2 f hf).2.2⟩⟩
theorem treeN.mono {a b c d : Nat} {t : List File} (h : treeN a b t) (h1 : a ≤ c) (h2 : b ≤ d) : treeN c d t := ⟨by have := h.1; omega, fun f hf => ⟨by have := (h.2 f hf).1; omega, (h.2 f hf).2⟩⟩
theorem light_N {t : List File} (hB : treeB t) (hl : treeLight t = true) : treeN 40 300 t := by
  unfold treeLight at hl
  simp only [Bool.and_eq_true, decide_eq_true_eq, List.all_eq_true] at hl
  refine ⟨by omega, fun f hf => ⟨?_, (hB.2 f hf).name, (hB.2 f hf).all⟩⟩
  have := (hl.2 f hf).1
  unfold lightS at this
  simp only [Bool.and_eq_true, decide_eq_true_eq] at this
  omega
theorem put_N {a b : Nat} {t : List File} {n : Str} {l : List Str} (h : treeN a b t) (hl : l.length ≤ b) (hn : strZ n) (hz : strsZ l) : treeN (a + 1) b (treePut t n l) := by
  have h1 := h.1
  unfold treePut
  split
  · refine ⟨by simp; omega, fun f hf => ?_⟩
    rcases List.mem_or_eq_of_mem_set hf with hf | rfl
    · exact h.2 f hf
    · exact ⟨hl, hn, hz⟩
  · refine ⟨by simp; omega, fun f hf => ?_⟩
    rcases List.mem_append.1 hf with hf | hf
    · rcases List.mem_append.1 hf with hf | hf
      · exact h.2 f (List.mem_of_mem_take hf)
      · rw [List.mem_singleton] at hf
        subst hf
        exact ⟨hl, hn, hz⟩
    · exact h.2 f (List.mem_of_mem_drop hf)
theorem del_N {a b : Nat} {t : List File} {n : Str} (h : treeN a b t) : treeN a b (treeDel t n) := by
  rw [treeDel_erase]
  exact ⟨Nat.le_trans (List.length_eraseIdx_le _ _) h.1, fun f hf => h.2 f (List.mem_of_mem_eraseIdx hf)⟩
theorem get_N {a b : Nat} {t : List File} {n : Str} (h : treeN a b t) : (treeGet t n).1.length ≤ b ∧ strsZ (treeGet t n).1 := by
  unfold treeGet
  split
  · rename_i f hf
    have := h.2 f (List.mem_of_find?_eq_some hf)
    exact ⟨this.1, this.2.2⟩
  · exact ⟨by simp, by simp [strsZ]⟩
theorem applyH_Z {l : List Str} {h : Hunk} (hl : strsZ l) (hR : hunkR h) : strsZ (applyH l h).1 := by
  unfold applyH
  split
  · split
    · intro s hs
      rcases List.mem_append.1 hs with hs | hs
      · rcases List.mem_append.1 hs with hs | hs
        · exact hl s (List.mem_of_mem_take hs)
        · exact hR.new s hs
      · exact hl s (List.mem_of_mem_drop hs)
    · simp [strsZ]
  · simp [strsZ]
theorem hunkOk_len {h : Hunk} (ho : hunkOk h = true) : h.old.length ≤ 200 ∧ h.new.length ≤ 200 := by
  simp only [hunkOk, linesOk, Bool.and_eq_true, decide_eq_true_eq] at ho
  omega
theorem mayP_len {p : Prim} (hm : mayP p = true) : p.h.old.length ≤ 200 ∧ p.h.new.length ≤ 200 := by
  unfold mayP at hm
  have hz : hunkNone p.h = true → p.h.old.length ≤ 200 ∧ p.h.new.length ≤ 200 := fun h => by
    simp only [hunkNone, Bool.and_eq_true, decide_eq_true_eq] at h
    omega
  repeat' (split at hm)
  · simp only [Bool.and_eq_true] at hm; exact hz hm.2
  · simp only [Bool.and_eq_true] at hm; exact hz hm.2
  · simp only [Bool.and_eq_true] at hm; exact hunkOk_len hm.2
  · simp only [Bool.and_eq_true] at hm; exact hunkOk_len hm.1.2
  · simp at hm
theorem apply_N {a b : Nat} {t : List File} {p : Prim} (h : treeN a b t) (hR : primR p) : treeN (a + 1) (b + 200) (applyP t p).1 := by
  have h' : treeN a (b + 200) t := h.mono (Nat.le_refl _) (by omega)
  have h0 : treeN (a + 1) (b + 200) [] := ⟨by simp, by simp⟩
  unfold applyP
  split
  · rename_i hm
    have hlen := mayP_len hm
    unfold addT rmT moveT patchT setT
    repeat' split
    all_goals first
      | exact h0
      | exact put_N h' (by simp) hR.name (by simp [strsZ])
      | exact (del_N h').mono (by omega) (Nat.le_refl _)
      | exact put_N (del_N h') (get_N h').1 hR.to (get_N h').2
      | exact put_N h' (by have e1 := applyH_len (treeGet t p.name).1 p.h; have e2 := (get_N (n := p.name) h).1; omega) hR.name (applyH_Z (get_N h').2 hR.h)
      | exact put_N h' (by omega) hR.name hR.h.new
  · exact h0
end Go.Qm
