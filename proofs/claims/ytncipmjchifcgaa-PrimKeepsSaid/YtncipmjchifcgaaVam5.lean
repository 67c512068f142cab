/- An abstract machine over data (part 5): lists of one's own, functions with what they have captured, calls. -/
import Derived.Test.YtncipmjchifcgaaVam4
import Derived.Maps.AppendAt
set_option linter.unusedVariables false
set_option linter.unusedSimpArgs false
namespace Go.Vam
open Go.RowKit

/-! ### 1. Rows, laid flat -/
theorem flat_get {α : Type} {sz : Nat} : ∀ (rows : List (List α)), (∀ row ∈ rows, row.length = sz) → ∀ (j : Nat) (row : List α) (i : Nat) (c : α), rows[j]? = some row → row[i]? = some c → rows.flatten[j * sz + i]? = some c
  | [], _, j, row, i, c, h, _ => by simp at h
  | r :: rows, hl, 0, row, i, c, h, hc => by
    simp only [List.getElem?_cons_zero, Option.some.injEq] at h
    subst h
    rw [List.flatten_cons, Nat.zero_mul, Nat.zero_add, List.getElem?_append_left (List.getElem?_eq_some_iff.1 hc).1]
    exact hc
  | r :: rows, hl, j + 1, row, i, c, h, hc => by
    have h0 := hl r (by simp)
    rw [List.getElem?_cons_succ] at h
    rw [List.flatten_cons, List.getElem?_append_right (by rw [h0, Nat.succ_mul]; omega)]
    rw [show (j + 1) * sz + i - r.length = j * sz + i by rw [h0, Nat.succ_mul]; omega]
    exact flat_get rows (fun row hr => hl row (by simp [hr])) j row i c h hc
theorem flat_len {α : Type} {sz : Nat} : ∀ (rows : List (List α)), (∀ row ∈ rows, row.length = sz) → rows.flatten.length = rows.length * sz
  | [], _ => by simp
  | r :: rows, hl => by
    rw [List.flatten_cons, List.length_append, hl r (by simp), flat_len rows (fun row hr => hl row (by simp [hr])), List.length_cons, Nat.succ_mul]
    omega
def rowsOf (sz : Nat) : Nat → List (Nat × AV) → Option (List (List C))
  | _, [] => some []
  | k, (i, x) :: rest =>
    match rowOf x with
    | some row => if i = k ∧ row.length = sz then (rowsOf sz (k + 1) rest).map (row :: ·) else none
    | none => none
theorem rowsOf_spec (sz : Nat) : ∀ (l : List (Nat × AV)) (k : Nat) (rs : List (List C)), rowsOf sz k l = some rs → rs.length = l.length ∧ (∀ row ∈ rs, row.length = sz) ∧
    ∀ (pre : List (Option C)), pre.length = k * sz → ∀ m, l.length ≤ m → fillC (fun i => some (i * sz, sz)) l (pre ++ List.replicate (m * sz) none) = some (pre ++ rs.flatten.map some ++ List.replicate ((m - l.length) * sz) none)
  | [], k, rs, h => by
    simp only [rowsOf, Option.some.injEq] at h
    subst h
    exact ⟨rfl, by simp, fun pre hp m hm => by simp [fillC]⟩
  | (i, x) :: l, k, rs, h => by
    simp only [rowsOf] at h
    cases hr : rowOf x with
    | none => rw [hr] at h; simp at h
    | some row =>
      rw [hr] at h
      simp only at h
      split at h
      · rename_i hc
        obtain ⟨rfl, hl⟩ := hc
        obtain ⟨rs', h1, rfl⟩ := Option.map_eq_some_iff.1 h
        obtain ⟨q1, q2, q3⟩ := rowsOf_spec sz l (i + 1) rs' h1
        refine ⟨by simp [q1], fun row' hr' => ?_, fun pre hp m hm => ?_⟩
        · rcases List.mem_cons.1 hr' with rfl | hr'
          · exact hl
          · exact q2 row' hr'
        · simp only [List.length_cons] at hm
          have hle : sz ≤ m * sz := Nat.le_mul_of_pos_left _ (by omega)
          have hm1 : m * sz - sz = (m - 1) * sz := by rw [Nat.sub_mul, Nat.one_mul]
          simp only [fillC, hr]
          rw [if_pos ⟨hl, by simp; omega⟩]
          have e1 : (pre ++ List.replicate (m * sz) (none : Option C)).take (i * sz) = pre := by rw [← hp]; exact List.take_left
          have e2 : (pre ++ List.replicate (m * sz) (none : Option C)).drop (i * sz + sz) = List.replicate ((m - 1) * sz) none := by
            rw [← hp, List.drop_append, List.drop_eq_nil_of_le (by omega), List.nil_append, List.drop_replicate]
            congr 1
            omega
          rw [e1, e2]
          have := q3 (pre ++ row.map some) (by simp [hp, hl, Nat.succ_mul]) (m - 1) (by omega)
          rw [this]
          simp [List.append_assoc, show m - 1 - l.length = m - (l.length + 1) by omega]
      · simp at h

section
variable {P : Program} {tt : TT} {base : Nat} {w0 : World} {Z : Zone} {β : Nat → Value} {cr lv fz : Nat → Prop} {bx : Nat → Option Bx} {nb : Nat} {w : World} {a : Act} {o : Oper}

/-- A list that is written out. -/
theorem op_buildSlice {t : TypeId} {n e : Nat} {parts : Array (Nat × Operand)} {it ie : TyI} {ρ : Operand → AV} {rs : List (List C)} (ho : o.op = .buildSlice t n parts) (hty : tyOk P t it = true) (hsl : it.sl = some e) (hte : tyOk P e ie = true) (hz : ie.zero ≠ [])
    (hW : WR base w0 Z β cr lv fz bx w) (hnb : ¬ cr nb) (hbx : bx nb = some (.rows e ie.n rs)) (hA : ∀ p ∈ parts, AR Z w β cr (ρ p.2) (a.eval p.2))
    (hr : rowsOf ie.n 0 (parts.toList.map fun p => (p.1, ρ p.2)) = some rs) (hn : rs.length = n) (hsmall : n * ie.n ≤ 16777216) (hn0 : 0 < ie.n) :
    OpRun P o a w (Post base w0 Z β cr lv fz bx nb { res := .own nb, nw := some (.rows e ie.n rs) } w) := by
  have hu := (tyOk_spec hty).2.2.1 e hsl
  obtain ⟨inf, hinf, hinfn, _, hzero⟩ := (tyOk_spec hte).2.1
  obtain ⟨z, hz1, hz2, hz3, hz4⟩ := hzero hz
  have hU : (underlying t).run P w = .ok (.slice e) w := by simp [underlying, hu]
  have hS : (sizeOf e).run P w = .ok ie.n w := by simp [sizeOf, typeInfo, hinf, hinfn]
  have hZ : (zeroValue e).run P w = .ok z w := by simp [zeroValue, typeInfo, hinf, hz1]
  obtain ⟨q1, q2, q3⟩ := rowsOf_spec ie.n _ 0 rs hr
  have hlen : (parts.toList.map fun p => (p.1, ρ p.2)).length = n := by rw [← q1, hn]
  have hfc := q3 [] (by simp) n (by omega)
  simp only [List.nil_append, hlen, Nat.sub_self, Nat.zero_mul, List.replicate_zero, List.append_nil] at hfc
  let zero : Array Value := if n * ie.n = 0 then #[] else z.cells
  obtain ⟨hp1, hp2⟩ := parts_AR (a := a) hA
  obtain ⟨arr, hfill, hcs⟩ := fillC_sound (Z := Z) (w := w) _ _ _ _ ((Array.range (n * ie.n)).map (zero[· % zero.size]!)) hp1 hp2 ⟨by simp, fun i c v h1 h2 => by
    rw [List.getElem?_replicate] at h1
    split at h1 <;> simp at h1⟩ hfc
  have hsz : arr.size = n * ie.n := by rw [hcs.1, List.length_map, flat_len rs q2, hn]
  have hl : ¬ (n * ie.n > 2 ^ 24) := by omega
  have hfill' : Instr.fill (fun i => some (i * ie.n, ie.n)) ((Array.range (n * ie.n)).map (zero[· % zero.size]!)) (parts.map fun p => (p.1, a.eval p.2)).toList = some arr := hfill
  refine .value (v := .slice (some ⟨w.heap.size, 0, none⟩) n n) (w' := w.alloc (.cells arr e)) ?_ ?_
  · simp only [execOp, ho, Instr.buildSlice, Sem.run_bind, hU, Result.andThen_ok, hS]
    rw [if_neg hl]
    by_cases h0 : n * ie.n = 0
    · simp only [zero, h0, if_true] at hfill'
      simp only [h0, if_true, Sem.run_pure, Result.andThen_ok, hfill', newRow, Sem.run_bind, run_newObj, World.alloc_eq]
    · simp only [zero, h0, if_false] at hfill'
      simp only [h0, if_false, Sem.run_bind, hZ, Sem.run_pure, Result.andThen_ok, hfill', newRow, run_newObj, World.alloc_eq]
  · have hg := grown_alloc w (.cells arr e)
    have he : Ext Z Z w (w.alloc (.cells arr e)) := ext_of_grown hg hW.zin (fun a _ => by simp)
    refine Post.alloc (u := .slice (some ⟨w.heap.size, 0, none⟩) n n) hW hnb hbx hg (fun g h => by simp [blk] at h; omega) (fun β' cr' fz' hb hc hu' => ?_) (fun β' cr' hb hc hu' => by rw [← hu']; exact .own nb hc)
    have hown := World.ownsRow_lit (e := e) (size := ie.n) w arr n hW.hbase (by
      have := Nat.le_mul_of_pos_right n hn0
      simp only [maxLen]; omega) hsz
    refine .rows e ie.n rs arr.toList (by rw [hu', hn]; exact hown) (fun j row hj => q2 row (List.mem_of_getElem? hj)) (fun j row i c v h1 h2 h3 => ?_) (fun g hg' a ha e1 => ?_) (fun _ g hg' a ha e1 => ?_)
    · have hf := flat_get rs q2 j row i c h1 h2
      exact ((hcs.2 _ c v (by rw [List.getElem?_map, hf]; rfl) (by simpa using h3)).1).ext he
    · rw [hu'] at hg'
      simp [Value.ownBlock] at hg'
      have := hW.zin a ha
      omega
    · rw [hu'] at hg'
      simp [Value.ownBlock] at hg'
      have := hW.zin a ha
      omega

theorem append_types (t t' ty e e' : TypeId) (ht : P.underlying t = some (.slice e)) (ht' : P.underlying t' = some (.slice e')) (args : Array Value) :
    (Builtin.append_ #[t, t'] ty args).run P w = (Builtin.append_ #[t, t] ty args).run P w := by
  have hU : ∀ w, (underlying t).run P w = .ok (.slice e) w := fun w => by simp [underlying, ht]
  have hU' : ∀ w, (underlying t').run P w = .ok (.slice e') w := fun w => by simp [underlying, ht']
  have h0 : (#[t, t'] : Array TypeId)[0]? = some t := rfl
  have h1 : (#[t, t'] : Array TypeId)[1]? = some t' := rfl
  have k0 : (#[t, t] : Array TypeId)[0]? = some t := rfl
  have k1 : (#[t, t] : Array TypeId)[1]? = some t := rfl
  unfold Builtin.append_
  rw [h0, h1, k0, k1]
  cases args[0]? with
  | none => rfl
  | some s =>
    cases args[1]? with
    | none => rfl
    | some x =>
      simp only [Sem.run_bind, hU, Result.andThen_ok]
      cases s <;> try rfl
      simp only [Sem.run_bind, hU, hU', Result.andThen_ok]

/-- append, and where the list lies then. -/
theorem run_append_mine (t ty e : TypeId) (i : TypeInfo) (z : Value) (ht : P.underlying t = some (.slice e)) (hi : P.info? e = some i) (hz : i.zero = some z) (hzs : z.cells.size = i.size)
    (v : Value) (n : Nat) (xs : List Value) (hown : w.ownsRow base e i.size v n xs)
    (A : Option Addr) (m c : Nat) (news : List Value) (hl : news.length = m * i.size) (hnews : ∀ ad, A = some ad → ∀ (j : Nat) (u : Value), news[j]? = some u → w.cell? (ad.add j) = some u) (hA : 0 < m → A.isSome = true) (h1 : ∀ u ∈ news, u.oneCell' = true)
    (hbytes : (n + m) * i.bytes ≤ 140737488355328) (hby : 0 < i.bytes) (hbase : base ≤ w.heap.size) :
    ∃ v' w', (Builtin.append_ #[t, t] ty #[v, .slice A m c]).run P w = .ok v' w' ∧ w'.ownsRow base e i.size v' (n + m) (xs ++ news) ∧
      ((w.grownBy w' none ∧ v'.ownBlock = some w.heap.size) ∨ (v'.ownBlock = v.ownBlock ∧ w.grownBy w' v.ownBlock ∧ ∀ g, v.ownBlock = some g → ∀ off, off < n * i.size → w'.cell? ⟨g, off, none⟩ = w.cell? ⟨g, off, none⟩)) := by
  have h63 : n + m ≤ maxLen := by
    have := Nat.le_trans (Nat.le_mul_of_pos_right (n + m) hby) hbytes
    simp only [maxLen]; omega
  have hlen : (xs ++ news).length = (n + m) * i.size := by rw [List.length_append, hown.1, hl, Nat.add_mul]
  rcases Nat.eq_zero_or_pos m with hm | hm
  · subst hm
    have hn : news = [] := List.eq_nil_of_length_eq_zero (by simpa using hl)
    subst hn
    refine ⟨v, w, ?_, by simpa using hown, .inr ⟨rfl, ⟨rfl, rfl, rfl, Nat.le_refl _, fun _ _ _ => rfl⟩, fun _ _ _ _ => rfl⟩⟩
    rcases hown.2 with ⟨rfl, rfl⟩ | ⟨g, cap, cur, rfl, _, _, hnc, _⟩
    · cases A <;> simp [Builtin.append_, underlying, ht, sizeOf, typeInfo, hi, Builtin.lenOf, Builtin.firstCells, loadCells, loadCellsFrom]
    · cases A <;> simp [Builtin.append_, underlying, ht, sizeOf, typeInfo, hi, Builtin.lenOf, Builtin.firstCells, hnc, storeCells, loadCells, loadCellsFrom]
  · have hs := hA hm
    cases A with
    | none => simp at hs
    | some ad =>
      have hnews' := hnews ad rfl
      rcases hown.2 with ⟨rfl, rfl⟩ | ⟨g, cap, cur, rfl, hbg, hg, hnc, hcm, hcs, htake⟩
      · have hx : xs = [] := List.eq_nil_of_length_eq_zero (by simpa using hown.1)
        subst hx
        have hr := run_append_nil (P := P) w t ty e i z ht hi hz ad m c news hl hnews' hm (by simp only [maxLen] at h63; omega) (by have hb := hbytes; simp only [Nat.zero_add] at hb; omega)
        refine ⟨_, _, hr, ⟨by simpa using hl, .inr ⟨w.heap.size, _, _, by simp, hbase, heap_alloc_new w.drew _, ?_, grownCap_le_maxLen w m 0 e (by omega), ?_, ?_⟩⟩, .inl ⟨⟨rfl, rfl, rfl, by simp, fun k hk _ => heap_alloc_old w.drew _ hk⟩, rfl⟩⟩
        · simpa using grownCap_ge w m 0 e
        · have := grownCap_ge w m 0 e
          simp only [Array.size_append, List.size_toArray, size_zeroCells, hzs, hl, ← Nat.add_mul]
          congr 1
          omega
        · simp only [Array.toList_append, Nat.zero_add, List.nil_append]
          rw [← hl]
          exact List.take_left
      · by_cases hroom : n + m ≤ cap
        · have hfit : n * i.size + news.length ≤ cur.size := by rw [hl, hcs, ← Nat.add_mul]; exact Nat.mul_le_mul_right _ hroom
          have hr := run_append_room (P := P) w t ty e i ht hi g n cap cur hg ad m c news hl hnews' h1 hroom hfit
          have hown' : (w.setRow g (cur.toList.take (n * i.size) ++ news ++ cur.toList.drop (n * i.size + news.length)).toArray).ownsRow base e i.size (.slice (some ⟨g, 0, none⟩) (n + m) cap) (n + m) (xs ++ news) := by
            refine ⟨hlen, .inr ⟨g, cap, _, rfl, hbg, setRow_heap w g cur _ e _ hg, hroom, hcm, ?_, ?_⟩⟩
            · simp only [List.size_toArray, List.length_append, List.length_take, List.length_drop, Array.length_toList]
              omega
            · rw [htake, ← hlen]
              exact List.take_left
          refine ⟨_, _, hr, hown', .inr ⟨rfl, ⟨rfl, rfl, rfl, by simp, fun k hk hk' => setRow_other w g k _ (fun e => hk' (by simp [Value.ownBlock, e]))⟩, fun g' hg' off hoff => ?_⟩⟩
          simp only [Value.ownBlock, Option.some.injEq] at hg'
          subst hg'
          have hxl : off < xs.length := by rw [hown.1]; exact hoff
          have c1 := hown.cells (g := g) rfl off _ (List.getElem?_eq_getElem hxl)
          have c2 := hown'.cells (g := g) rfl off _ (by rw [List.getElem?_append_left hxl]; exact List.getElem?_eq_getElem hxl)
          rw [add_lit, Nat.zero_add] at c1 c2
          rw [c1, c2]
        · have holds : ∀ (j : Nat) (u : Value), xs[j]? = some u → w.cell? ((⟨g, 0, none⟩ : Addr).add j) = some u := hown.cells (g := g) rfl
          have hr := run_append_grow (P := P) w t ty e i z ht hi hz ⟨g, 0, none⟩ n cap xs hown.1 holds ad m c news hl hnews' (by omega) (by simp only [maxLen] at h63; omega) (growslice_fits (by omega) hbytes)
          have hge := grownCap_ge w (n + m) cap e
          refine ⟨_, _, hr, ⟨hlen, .inr ⟨w.heap.size, _, _, rfl, hbase, heap_alloc_new w.drew _, hge, grownCap_le_maxLen w (n + m) cap e h63, ?_, ?_⟩⟩, .inl ⟨⟨rfl, rfl, rfl, by simp, fun k hk _ => heap_alloc_old w.drew _ hk⟩, rfl⟩⟩
          · simp only [Array.size_append, List.size_toArray, size_zeroCells, hzs, hown.1, hl, ← Nat.add_mul]
            congr 1
            omega
          · simp only [Array.toList_append, List.append_assoc]
            rw [← List.append_assoc, ← hlen]
            exact List.take_left

/-- What is put behind a list: rows that are read. -/
structure Src (Z : Zone) (w : World) (sz : Nat) (xs : List (List C)) (v : Value) : Prop where
  out : ∃ (A : Option Addr) (cap : Nat) (news : List Value), v = .slice A xs.length cap ∧ news.length = xs.length * sz ∧ (∀ ad, A = some ad → ∀ (j : Nat) (u : Value), news[j]? = some u → w.cell? (ad.add j) = some u) ∧
    (0 < xs.length → A.isSome = true) ∧ ∀ (j : Nat) (row : List C) (i : Nat) (c : C) (u : Value), xs[j]? = some row → row[i]? = some c → news[j * sz + i]? = some u → CR Z w c u
theorem range_get (n : Nat) (f : Nat → Value) (j : Nat) : ((List.range n).map f)[j]? = if j < n then some (f j) else none := by
  rw [List.getElem?_map]
  by_cases h : j < n
  · rw [List.getElem?_range h, if_pos h]; rfl
  · rw [if_neg h, List.getElem?_eq_none (by simpa using Nat.le_of_not_lt h)]; rfl
theorem Src.sl {sz : Nat} {xs : List (List C)} {v : Value} (h : CR Z w (.sl xs) v) (hr : ∀ row ∈ xs, row.length = sz) (hs0 : 0 < sz) : Src Z w sz xs v := by
  obtain ⟨A, cap, sz', vals, hv, hcap, hmax, hA, hrl, hcell, hval⟩ := h.sl_inv
  have hsz : 0 < xs.length → sz' = sz := fun hp => by
    have := hrl 0 _ (List.getElem?_eq_getElem hp)
    rw [← this]
    exact hr _ (List.getElem_mem hp)
  have hdm : ∀ j, j < xs.length * sz → j / sz < xs.length ∧ j % sz < sz ∧ j / sz * sz + j % sz = j := fun j hj =>
    ⟨by rw [Nat.div_lt_iff_lt_mul hs0]; exact hj, Nat.mod_lt _ hs0, by rw [Nat.mul_comm]; exact Nat.div_add_mod j sz⟩
  refine ⟨A, cap, (List.range (xs.length * sz)).map (fun k => vals (k / sz) (k % sz)), hv, by simp, fun ad hAd j u hu => ?_, hA, fun j row i c u h1 h2 h3 => ?_⟩
  · rw [range_get] at hu
    split at hu
    · rename_i hj
      obtain ⟨d1, d2, d3⟩ := hdm j hj
      have hs := hsz (Nat.lt_of_le_of_lt (Nat.zero_le _) d1)
      have d4 : j % sz < sz' := by rw [hs]; exact d2
      have := (hcell ad hAd (j / sz) d1 (j % sz) d4).2
      rw [hs, d3] at this
      rw [this]
      exact hu
    · cases hu
  · rw [range_get] at h3
    split at h3
    · have hi : i < sz := by rw [← hr row (List.mem_of_getElem? h1)]; exact (List.getElem?_eq_some_iff.1 h2).1
      have e1 : (j * sz + i) / sz = j := by rw [Nat.mul_comm, Nat.mul_add_div hs0, Nat.div_eq_of_lt hi, Nat.add_zero]
      have e2 : (j * sz + i) % sz = i := by rw [Nat.mul_comm, Nat.mul_add_mod, Nat.mod_eq_of_lt hi]
      simp only [Option.some.injEq, e1, e2] at h3
      subst h3
      exact hval j row i c h1 h2
    · cases h3
theorem Src.own {sz e b : Nat} {xs : List (List C)} {v : Value} (hW : WR base w0 Z β cr lv fz bx w) (hx : AR Z w β cr (.own b) v) (hlv : lv b) (hb : bx b = some (.rows e sz xs)) : Src Z w sz xs v := by
  have hx' : v = β b := by cases hx; rfl
  subst hx'
  obtain ⟨xx, hxx, hB⟩ := hW.box b hlv
  rw [hb] at hxx
  injection hxx with hxx
  subst hxx
  cases hB with
  | rows e sz rs inner hown hr hc ht hz =>
    rcases hown.2 with ⟨hv, hn⟩ | ⟨g, cap, cur, hv, hrest⟩
    · have hx0 : xs = [] := List.eq_nil_of_length_eq_zero hn
      subst hx0
      exact ⟨none, 0, [], hv, by simp, fun ad h => by simp at h, by simp, fun j row i c u h => by simp at h⟩
    · exact ⟨some ⟨g, 0, none⟩, cap, inner, hv, hown.1, fun ad hAd j u hu => by
        injection hAd with hAd
        subst hAd
        exact hown.cells (g := g) (by rw [hv]; rfl) j u hu, by simp, hc⟩
theorem Src.nil {sz : Nat} {v : Value} (hx : AR Z w β cr .nil v) : Src Z w sz [] v := by
  cases hx
  exact ⟨none, 0, [], rfl, by simp, fun ad h => by simp at h, by simp, fun j row i c u h => by simp at h⟩

/-- What a list is put behind: one of one's own, or nil. -/
def Dst (lv : Nat → Prop) (bx : Nat → Option Bx) (e sz : Nat) (rs : List (List C)) (kill : List Nat) (x : AV) : Prop :=
  (x = .nil ∧ rs = [] ∧ kill = []) ∨ ∃ b, x = .own b ∧ kill = [b] ∧ lv b ∧ bx b = some (.rows e sz rs)

theorem op_append {t t' e e' : TypeId} {x y : Operand} {r : AV} {it it' ie : TyI} {rs xs : List (List C)} {kill : List Nat} {fr : Bool} (ho : o.op = .call { callee := .builtin .append, args := #[x, y], argTypes := #[t, t'] })
    (hty : tyOk P t it = true) (hsl : it.sl = some e) (hty' : tyOk P t' it' = true) (hsl' : it'.sl = some e') (hte : tyOk P e ie = true) (hz : ie.zero ≠ []) (hby : 0 < ie.bytes)
    (hW : WR base w0 Z β cr lv fz bx w) (hnb : ¬ cr nb) (hbx : bx nb = some (.rows e ie.n (rs ++ xs)))
    (hx : AR Z w β cr r (a.eval x)) (hd : Dst lv bx e ie.n rs kill r) (hs : Src Z w ie.n xs (a.eval y)) (hxl : ∀ row ∈ xs, row.length = ie.n)
    (hbytes : (rs.length + xs.length) * ie.bytes ≤ 140737488355328) (hfr : ∀ b, b ∈ kill → fz b → fr = true) :
    OpRun P o a w (Post base w0 Z β cr lv fz bx nb { res := .own nb, nw := some (.rows e ie.n (rs ++ xs)), kill, frz := if fr then [nb] else [] } w) := by
  have hu := (tyOk_spec hty).2.2.1 e hsl
  have hu' := (tyOk_spec hty').2.2.1 e' hsl'
  obtain ⟨inf, hinf, hinfn, hinfb, hzero⟩ := (tyOk_spec hte).2.1
  obtain ⟨z, hz1, hz2, hz3, hz4⟩ := hzero hz
  obtain ⟨A, cap, news, hyv, hnl, hnews, hA, hnv⟩ := hs.out
  generalize hxv : a.eval x = v at hx
  -- the list as it is
  have hold : ∃ inner, w.ownsRow base e ie.n v rs.length inner ∧ (∀ (j : Nat) (row : List C), rs[j]? = some row → row.length = ie.n) ∧
      (∀ (j : Nat) (row : List C) (i : Nat) (c : C) (u : Value), rs[j]? = some row → row[i]? = some c → inner[j * ie.n + i]? = some u → CR Z w c u) ∧
      (∀ g, v.ownBlock = some g → (∀ a, Z a → a.block = g → a.off < rs.length * ie.n) ∧ (fr = false → ∀ a, Z a → a.block ≠ g) ∧ ∃ b, b ∈ kill ∧ lv b ∧ blk (β b) = some g) := by
    rcases hd with ⟨rfl, rfl, rfl⟩ | ⟨b, rfl, rfl, hlv, hb⟩
    · cases hx
      exact ⟨[], World.ownsRow_nil w base e ie.n, by simp, by simp, fun g h => by simp [Value.ownBlock] at h⟩
    · have hvb : v = β b := by cases hx; rfl
      obtain ⟨xx, hxx, hB⟩ := hW.box b hlv
      rw [hb] at hxx
      injection hxx with hxx
      subst hxx
      cases hB with
      | rows e sz rs inner hown hr hc ht hzz =>
        rw [hvb]
        exact ⟨inner, hown, hr, hc, fun g h => ⟨ht g h, fun hf => hzz (fun hfz => by have := hfr b (by simp) hfz; simp [this] at hf) g h, b, by simp, hlv, blk_ownBlock _ _ h⟩⟩
  obtain ⟨inner, hown, hr, hc, hblk⟩ := hold
  have h1 : ∀ u ∈ news, u.oneCell' = true := fun u hu => by
    obtain ⟨k, hk⟩ := List.mem_iff_getElem?.1 hu
    have hkl : k < xs.length * ie.n := by rw [← hnl]; exact (List.getElem?_eq_some_iff.1 hk).1
    have hn0 : 0 < ie.n := by rcases Nat.eq_zero_or_pos ie.n with h | h; (rw [h] at hkl; omega); exact h
    have d1 : k / ie.n < xs.length := by rw [Nat.div_lt_iff_lt_mul hn0]; exact hkl
    have hrow := List.getElem?_eq_getElem d1
    have hl := hxl _ (List.getElem_mem d1)
    have d2 : k % ie.n < (xs[k / ie.n]).length := by rw [hl]; exact Nat.mod_lt _ hn0
    refine (hnv _ _ (k % ie.n) _ u hrow (List.getElem?_eq_getElem d2) ?_).one
    rw [show k / ie.n * ie.n + k % ie.n = k by rw [Nat.mul_comm]; exact Nat.div_add_mod k ie.n]
    exact hk
  obtain ⟨v', w', hrun, hown', hwhere⟩ := run_append_mine (P := P) (w := w) (base := base) t o.type e inf z hu hinf hz1 (by omega) v rs.length inner (by rw [hinfn]; exact hown) A xs.length cap news (by rw [hinfn]; exact hnl) hnews hA h1 (by rw [hinfb]; exact hbytes) (by omega) hW.hbase
  rw [hinfn] at hown' hwhere
  have hlen : rs.length + xs.length = (rs ++ xs).length := by simp
  have he : Ext Z Z w w' := by
    rcases hwhere with ⟨hg, _⟩ | ⟨_, hg, hkeep⟩
    · exact ext_of_grown hg hW.zin (fun a _ => by simp)
    · refine ⟨fun _ h => h, fun a ha => ?_⟩
      by_cases hb : v.ownBlock = some a.block
      · have hoff := (hblk _ hb).1 a ha rfl
        have hsp := hW.zsp a ha
        have := hkeep a.block hb a.off hoff
        cases a with | mk ab ao as =>
        simp only at hsp
        subst hsp
        exact this
      · exact World.cell?_of_block (hg.block a.block (hW.zin a ha) (fun e => hb e.symm))
  have hgr : w.grownBy w' v.ownBlock := by
    rcases hwhere with ⟨hg, _⟩ | ⟨_, hg, _⟩
    · exact ⟨hg.os, hg.tape, hg.output, hg.size, fun k hk _ => hg.block k hk (by simp)⟩
    · exact hg
  have hvb : ∀ g, v'.ownBlock = some g → (w.heap.size ≤ g) ∨ v.ownBlock = some g := fun g hg => by
    rcases hwhere with ⟨_, hv⟩ | ⟨hv, _⟩
    · rw [hv] at hg; injection hg with hg; exact .inl (by omega)
    · rw [hv] at hg; exact .inr hg
  have hb2 : ∀ g, blk v' = some g → v'.ownBlock = some g := fun g hg => by
    rcases hown'.2 with ⟨rfl, _⟩ | ⟨g', cap', cur', rfl, _⟩
    · simp [blk] at hg
    · exact hg
  refine .value (v := v') (w' := w') ?_ ?_
  · simp only [execOp, ho, resolve, invoke, builtin, Sem.run_bind, Sem.run_pure, Result.andThen_ok, List.map_toArray, List.map_cons, List.map_nil, hxv, hyv, append_types t t' o.type e e' hu hu', hrun]
  · refine Post.renew (row := v.ownBlock) (u := v') hW hnb hbx hgr he (fun k hk => ?_) (fun g hg b hl hnk e1 => ?_) (fun β' cr' fz' hb hcn hun hfz => ?_) (fun β' cr' hb hcn hun => by rw [← hun]; exact .own nb hcn)
    · obtain ⟨_, _, b0, hk0, hl0, hb0⟩ := hblk k hk
      obtain ⟨y, hy, hB⟩ := hW.box b0 hl0
      have hnl : y.isLp = false := by
        rcases hd with ⟨_, _, hk'⟩ | ⟨b', _, hk', _, hb'⟩
        · rw [hk'] at hk0; simp at hk0
        · rw [hk', List.mem_singleton] at hk0
          subst hk0
          rw [hb'] at hy
          injection hy with hy
          subst hy
          rfl
      refine ⟨(hB.blk_base hb0).1, hB.isCells hnl hb0, fun b hl hnk e1 => ?_⟩
      exact hW.dis b b0 k hl hl0 (fun e => hnk (e ▸ hk0)) e1 hb0
    · rcases hvb g (hb2 g hg) with h | h
      · obtain ⟨y, hy, hB⟩ := hW.box b hl
        have := (hB.blk_base e1).2
        omega
      · obtain ⟨_, _, b0, hk0, hl0, hb0⟩ := hblk g h
        exact hW.dis b b0 g hl hl0 (fun e => hnk (e ▸ hk0)) e1 hb0
    · refine .rows e ie.n (rs ++ xs) (inner ++ news) (by rw [hun, ← hlen]; exact hown') (fun j row hj => ?_) (fun j row i c u h1 h2 h3 => ?_) (fun g hg a ha e1 => ?_) (fun hn g hg a ha e1 => ?_)
      · rcases List.mem_append.1 (List.mem_of_getElem? hj) with h | h
        · obtain ⟨k, hk⟩ := List.mem_iff_getElem?.1 h
          exact hr k row hk
        · exact hxl row h
      · by_cases hj : j < rs.length
        · rw [List.getElem?_append_left hj] at h1
          have hi : i < ie.n := by rw [← hr j row h1]; exact (List.getElem?_eq_some_iff.1 h2).1
          have hlt : j * ie.n + i < inner.length := by
            rw [hown.1]
            have : j * ie.n + ie.n ≤ rs.length * ie.n := by rw [← Nat.succ_mul]; exact Nat.mul_le_mul_right _ hj
            omega
          rw [List.getElem?_append_left hlt] at h3
          exact (hc j row i c u h1 h2 h3).ext he
        · rw [List.getElem?_append_right (by omega)] at h1
          have hge : inner.length ≤ j * ie.n + i := by
            rw [hown.1]
            have : rs.length * ie.n ≤ j * ie.n := Nat.mul_le_mul_right _ (by omega)
            omega
          rw [List.getElem?_append_right hge, hown.1, show j * ie.n + i - rs.length * ie.n = (j - rs.length) * ie.n + i by
            rw [Nat.sub_mul]
            have : rs.length * ie.n ≤ j * ie.n := Nat.mul_le_mul_right _ (by omega)
            omega] at h3
          exact (hnv _ row i c u h1 h2 h3).ext he
      · rw [hun] at hg
        rcases hvb g hg with h | h
        · have := hW.zin a ha
          omega
        · have := (hblk g h).1 a ha e1
          rw [List.length_append, Nat.add_mul]
          omega
      · rw [hun] at hg
        rcases hvb g hg with h | h
        · have := hW.zin a ha
          omega
        · cases fr with
          | true => exact hn (hfz (by simp))
          | false => exact (hblk g h).2.1 rfl a ha e1

/-- The first ones of a list of one's own; none of what falls away is laid aside. -/
theorem op_cut {t : TypeId} {x y : Operand} {it ie : TyI} {e b hi : Nat} {k : IntKind} {rs : List (List C)} (ho : o.op = .slice t x none (some y) none) (hty : tyOk P t it = true) (hsl : it.sl = some e) (hte : tyOk P e ie = true)
    (hW : WR base w0 Z β cr lv fz bx w) (hnb : ¬ cr nb) (hbx : bx nb = some (.rows e ie.n (rs.take hi)))
    (hx : AR Z w β cr (.own b) (a.eval x)) (hlv : lv b) (hb : bx b = some (.rows e ie.n rs)) (hnf : ¬ fz b) (hy : AR Z w β cr (.c (.sc (.int k hi))) (a.eval y)) (hle : hi ≤ rs.length) :
    OpRun P o a w (Post base w0 Z β cr lv fz bx nb { res := .own nb, nw := some (.rows e ie.n (rs.take hi)), kill := [b] } w) := by
  have hu := (tyOk_spec hty).2.2.1 e hsl
  obtain ⟨inf, hinf, hinfn, _⟩ := (tyOk_spec hte).2.1
  have hU : (underlying t).run P w = .ok (.slice e) w := by simp [underlying, hu]
  have hS : (sizeOf e).run P w = .ok ie.n w := by simp [sizeOf, typeInfo, hinf, hinfn]
  have hvb : a.eval x = β b := by
    generalize hq : a.eval x = q at hx
    cases hx; rfl
  obtain ⟨xx, hxx, hB⟩ := hW.box b hlv
  rw [hb] at hxx
  injection hxx with hxx
  subst hxx
  have hI : ∀ (k : IntKind) (i y : Nat) (code : Go.BoundsCode), i ≤ y → (Instr.sliceBound (.int k (i : Int)) y code).run P w = .ok i w := fun k i y code h => by
    have : 0 ≤ (i : Int) ∧ (i : Int) ≤ (y : Int) := ⟨by omega, by omega⟩
    simp [Instr.sliceBound, asIntOf, this]
  cases hB with
  | rows e sz rs inner hown hr hc ht hzz =>
    have hrows : ∀ (v : Value), v = β b → ∀ A cap, v = .slice A rs.length cap → hi ≤ cap → (w.ownsRow base e ie.n (.slice A hi cap) hi (inner.take (hi * ie.n))) →
        OpRun P o a w (Post base w0 Z β cr lv fz bx nb { res := .own nb, nw := some (.rows e ie.n (rs.take hi)), kill := [b] } w) := fun v hv A cap hvs hcap hown' => by
      have hth : (rs.take hi).length = hi := by simp; omega
      refine .value (v := .slice A hi cap) (w' := w) ?_ ?_
      · simp only [execOp, ho, hvb, ← hv, hvs, Instr.sliceAt, Instr.slice, Instr.sliceBounds, Option.map_none, Option.map_some, hy.sc_inv.1, Sem.run_bind, hU, hS, Sem.run_pure, Result.andThen_ok, hI k hi cap _ hcap, Nat.sub_zero, Nat.zero_mul]
        congr 2
        split
        · rfl
        · cases A <;> simp [Addr.add]
      · have hsame : blk (.slice A hi cap) = blk (β b) := by rw [← hv, hvs]; cases A <;> rfl
        have hob : (Value.slice A hi cap).ownBlock = (β b).ownBlock := by rw [← hv, hvs]; cases A <;> rfl
        refine Post.renew (row := none) (u := .slice A hi cap) hW hnb hbx ⟨rfl, rfl, rfl, Nat.le_refl _, fun _ _ _ => rfl⟩ (Ext.refl _ _) (fun k h => by cases h) (fun g hg b' hl hk e1 => ?_) (fun β' cr' fz' hbb hcn hun _ => ?_) (fun β' cr' hbb hcn hun => by rw [← hun]; exact .own nb hcn)
        · rw [hsame] at hg
          exact hW.dis b' b g hl hlv (fun e => hk (by simp [e])) e1 hg
        · refine .rows e ie.n (rs.take hi) (inner.take (hi * ie.n)) (by rw [hun, hth]; exact hown') (fun j row hj => ?_) (fun j row i c u h1 h2 h3 => ?_) (fun g hg a ha e1 => ?_) (fun _ g hg a ha e1 => ?_)
          · rw [List.getElem?_take] at hj
            split at hj
            · exact hr j row hj
            · cases hj
          · rw [List.getElem?_take] at h1 h3
            split at h1
            · split at h3
              · exact (hc j row i c u h1 h2 h3).ext ⟨fun _ h => h, fun _ _ => rfl⟩
              · cases h3
            · cases h1
          · rw [hun, hob] at hg
            exact absurd e1 (hzz hnf g hg a ha)
          · rw [hun, hob] at hg
            exact hzz hnf g hg a ha e1
    rcases hown.2 with ⟨hv, hn⟩ | ⟨g, cap, cur, hv, hbs, hh, hnc, hcm, hcs, htake⟩
    · have h0 : hi = 0 := by omega
      subst h0
      refine hrows _ rfl none 0 (by rw [hv, hn]) (Nat.le_refl _) ⟨by simp, .inl ⟨rfl, rfl⟩⟩
    · refine hrows _ rfl (some ⟨g, 0, none⟩) cap hv (by omega) ⟨?_, .inr ⟨g, cap, cur, rfl, hbs, hh, by omega, hcm, hcs, ?_⟩⟩
      · rw [List.length_take, hown.1]
        exact Nat.min_eq_left (Nat.mul_le_mul_right _ hle)
      · rw [← htake, List.take_take, Nat.min_eq_left (Nat.mul_le_mul_right _ hle)]
end
end Go.Vam
