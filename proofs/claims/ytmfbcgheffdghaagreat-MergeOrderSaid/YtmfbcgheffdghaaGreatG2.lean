/- An abstract machine over data (part 5): lists of one's own, functions with what they have captured, calls. -/
import Derived.Test.YtmfbcgheffdghaaGreatG1
import Derived.Maps.AppendAt
set_option linter.unusedSimpArgs false
set_option linter.unusedVariables false
namespace Go.Vam
open Go.RowKit

/-! ### 1. Rows, laid flat -/
theorem flat_get {α : Type} {sz : Nat} : ∀ (rows : List (List α)), (∀ row ∈ rows, row.length = sz) → ∀ (j : Nat) (row : List α) (i : Nat) (c : α), rows[j]? = some row → row[i]? = some c → rows.flatten[j * sz + i]? = some c
  | [], _, j, row, i, c, h, _ => by simp at h
  | r :: rows, hl, 0, row, i, c, h, hc => by
    simp only [List.getElem?_cons_zero, Option.some.injEq] at h
    subst h
    rw [List.flatten_cons, Nat.zero_mul, Nat.zero_add, List.getElem?_append_left (List.getElem?_eq_some_iff.1 hc).1]
    exact hc
  | r :: rows, hl, j + 1, row, i, c, h, hc => by
    have h0 := hl r (by simp)
    rw [List.getElem?_cons_succ] at h
    rw [List.flatten_cons, List.getElem?_append_right (by rw [h0, Nat.succ_mul]; omega)]
    rw [show (j + 1) * sz + i - r.length = j * sz + i by rw [h0, Nat.succ_mul]; omega]
    exact flat_get rows (fun row hr => hl row (by simp [hr])) j row i c h hc
theorem flat_len {α : Type} {sz : Nat} : ∀ (rows : List (List α)), (∀ row ∈ rows, row.length = sz) → rows.flatten.length = rows.length * sz
  | [], _ => by simp
  | r :: rows, hl => by
    rw [List.flatten_cons, List.length_append, hl r (by simp), flat_len rows (fun row hr => hl row (by simp [hr])), List.length_cons, Nat.succ_mul]
    omega
def rowsOf (sz : Nat) : Nat → List (Nat × AV) → Option (List (List C))
  | _, [] => some []
  | k, (i, x) :: rest =>
    match rowOf x with
    | some row => if i = k ∧ row.length = sz then (rowsOf sz (k + 1) rest).map (row :: ·) else none
    | none => none
theorem rowsOf_spec (sz : Nat) : ∀ (l : List (Nat × AV)) (k : Nat) (rs : List (List C)), rowsOf sz k l = some rs → rs.length = l.length ∧ (∀ row ∈ rs, row.length = sz) ∧
    ∀ (pre : List (Option C)), pre.length = k * sz → ∀ m, l.length ≤ m → fillC (fun i => some (i * sz, sz)) l (pre ++ List.replicate (m * sz) none) = some (pre ++ rs.flatten.map some ++ List.replicate ((m - l.length) * sz) none)
  | [], k, rs, h => by
    simp only [rowsOf, Option.some.injEq] at h
    subst h
    exact ⟨rfl, by simp, fun pre hp m hm => by simp [fillC]⟩
  | (i, x) :: l, k, rs, h => by
    simp only [rowsOf] at h
    cases hr : rowOf x with
    | none => rw [hr] at h; simp at h
    | some row =>
      rw [hr] at h
      simp only at h
      split at h
      · rename_i hc
        obtain ⟨rfl, hl⟩ := hc
        obtain ⟨rs', h1, rfl⟩ := Option.map_eq_some_iff.1 h
        obtain ⟨q1, q2, q3⟩ := rowsOf_spec sz l (i + 1) rs' h1
        refine ⟨by simp [q1], fun row' hr' => ?_, fun pre hp m hm => ?_⟩
        · rcases List.mem_cons.1 hr' with rfl | hr'
          · exact hl
          · exact q2 row' hr'
        · simp only [List.length_cons] at hm
          have hle : sz ≤ m * sz := Nat.le_mul_of_pos_left _ (by omega)
          have hm1 : m * sz - sz = (m - 1) * sz := by rw [Nat.sub_mul, Nat.one_mul]
          simp only [fillC, hr]
          rw [if_pos ⟨hl, by simp; omega⟩]
          have e1 : (pre ++ List.replicate (m * sz) (none : Option C)).take (i * sz) = pre := by rw [← hp]; exact List.take_left
          have e2 : (pre ++ List.replicate (m * sz) (none : Option C)).drop (i * sz + sz) = List.replicate ((m - 1) * sz) none := by
            rw [← hp, List.drop_append, List.drop_eq_nil_of_le (by omega), List.nil_append, List.drop_replicate]
            congr 1
            omega
          rw [e1, e2]
          have := q3 (pre ++ row.map some) (by simp [hp, hl, Nat.succ_mul]) (m - 1) (by omega)
          rw [this]
          simp [List.append_assoc, show m - 1 - l.length = m - (l.length + 1) by omega]
      · simp at h

section
variable {P : Program} {tt : TT} {base : Nat} {w0 : World} {Z : Zone} {β : Nat → Value} {cr lv fz : Nat → Prop} {bx : Nat → Option Bx} {nb : Nat} {w : World} {a : Act} {o : Oper}

/-- A list that is written out. -/
theorem op_buildSlice {t : TypeId} {n e : Nat} {parts : Array (Nat × Operand)} {it ie : TyI} {ρ : Operand → AV} {rs : List (List C)} (ho : o.op = .buildSlice t n parts) (hty : tyOk P t it = true) (hsl : it.sl = some e) (hte : tyOk P e ie = true) (hz : ie.zero ≠ [])
    (hW : WR base w0 Z β cr lv fz bx w) (hnb : ¬ cr nb) (hbx : bx nb = some (.rows e ie.n rs)) (hA : ∀ p ∈ parts, AR Z w β cr (ρ p.2) (a.eval p.2))
    (hr : rowsOf ie.n 0 (parts.toList.map fun p => (p.1, ρ p.2)) = some rs) (hn : rs.length = n) (hsmall : n * ie.n ≤ 16777216) (hn0 : 0 < ie.n) :
    OpRun P o a w (Post base w0 Z β cr lv fz bx nb { res := .own nb, nw := some (.rows e ie.n rs) } w) := by
  have hu := (tyOk_spec hty).2.2.1 e hsl
  obtain ⟨inf, hinf, hinfn, _, hzero⟩ := (tyOk_spec hte).2.1
  obtain ⟨z, hz1, hz2, hz3, hz4⟩ := hzero hz
  have hU : (underlying t).run P w = .ok (.slice e) w := by simp [underlying, hu]
  have hS : (sizeOf e).run P w = .ok ie.n w := by simp [sizeOf, typeInfo, hinf, hinfn]
  have hZ : (zeroValue e).run P w = .ok z w := by simp [zeroValue, typeInfo, hinf, hz1]
  obtain ⟨q1, q2, q3⟩ := rowsOf_spec ie.n _ 0 rs hr
  have hlen : (parts.toList.map fun p => (p.1, ρ p.2)).length = n := by rw [← q1, hn]
  have hfc := q3 [] (by simp) n (by omega)
  simp only [List.nil_append, hlen, Nat.sub_self, Nat.zero_mul, List.replicate_zero, List.append_nil] at hfc
  let zero : Array Value := if n * ie.n = 0 then #[] else z.cells
  obtain ⟨hp1, hp2⟩ := parts_AR (a := a) hA
  obtain ⟨arr, hfill, hcs⟩ := fillC_sound (Z := Z) (w := w) _ _ _ _ ((Array.range (n * ie.n)).map (zero[· % zero.size]!)) hp1 hp2 ⟨by simp, fun i c v h1 h2 => by
    rw [List.getElem?_replicate] at h1
    split at h1 <;> simp at h1⟩ hfc
  have hsz : arr.size = n * ie.n := by rw [hcs.1, List.length_map, flat_len rs q2, hn]
  have hl : ¬ (n * ie.n > 2 ^ 24) := by omega
  have hfill' : Instr.fill (fun i => some (i * ie.n, ie.n)) ((Array.range (n * ie.n)).map (zero[· % zero.size]!)) (parts.map fun p => (p.1, a.eval p.2)).toList = some arr := hfill
  refine .value (v := .slice (some ⟨w.heap.size, 0, none⟩) n n) (w' := w.alloc (.cells arr e)) ?_ ?_
  · simp only [execOp, ho, Instr.buildSlice, Sem.run_bind, hU, Result.andThen_ok, hS]
    rw [if_neg hl]
    by_cases h0 : n * ie.n = 0
    · simp only [zero, h0, if_true] at hfill'
      simp only [h0, if_true, Sem.run_pure, Result.andThen_ok, hfill', newRow, Sem.run_bind, run_newObj, World.alloc_eq]
    · simp only [zero, h0, if_false] at hfill'
      simp only [h0, if_false, Sem.run_bind, hZ, Sem.run_pure, Result.andThen_ok, hfill', newRow, run_newObj, World.alloc_eq]
  · have hg := grown_alloc w (.cells arr e)
    have he : Ext Z Z w (w.alloc (.cells arr e)) := ext_of_grown hg hW.zin (fun a _ => by simp)
    refine Post.alloc (u := .slice (some ⟨w.heap.size, 0, none⟩) n n) hW hnb hbx hg (fun g h => by simp [blk] at h; omega) (fun β' cr' fz' hb hc hu' => ?_) (fun β' cr' hb hc hu' => by rw [← hu']; exact .own nb hc)
    have hown := World.ownsRow_lit (e := e) (size := ie.n) w arr n hW.hbase (by
      have := Nat.le_mul_of_pos_right n hn0
      simp only [maxLen]; omega) hsz
    refine .rows e ie.n rs arr.toList (by rw [hu', hn]; exact hown) (fun j row hj => q2 row (List.mem_of_getElem? hj)) (fun j row i c v h1 h2 h3 => ?_) (fun g hg' a ha e1 => ?_) (fun _ g hg' a ha e1 => ?_)
    · have hf := flat_get rs q2 j row i c h1 h2
      exact ((hcs.2 _ c v (by rw [List.getElem?_map, hf]; rfl) (by simpa using h3)).1).ext he
    · rw [hu'] at hg'
      simp [Value.ownBlock] at hg'
      have := hW.zin a ha
      omega
    · rw [hu'] at hg'
      simp [Value.ownBlock] at hg'
      have := hW.zin a ha
      omega

theorem append_types (t t' ty e e' : TypeId) (ht : P.underlying t = some (.slice e)) (ht' : P.underlying t' = some (.slice e')) (args : Array Value) :
    (Builtin.append_ #[t, t'] ty args).run P w = (Builtin.append_ #[t, t] ty args).run P w := by
  have hU : ∀ w, (underlying t).run P w = .ok (.slice e) w := fun w => by simp [underlying, ht]
  have hU' : ∀ w, (underlying t').run P w = .ok (.slice e') w := fun w => by simp [underlying, ht']
  have h0 : (#[t, t'] : Array TypeId)[0]? = some t := rfl
  have h1 : (#[t, t'] : Array TypeId)[1]? = some t' := rfl
  have k0 : (#[t, t] : Array TypeId)[0]? = some t := rfl
  have k1 : (#[t, t] : Array TypeId)[1]? = some t := rfl
  unfold Builtin.append_
  rw [h0, h1, k0, k1]
  cases args[0]? with
  | none => rfl
  | some s =>
    cases args[1]? with
    | none => rfl
    | some x =>
      simp only [Sem.run_bind, hU, Result.andThen_ok]
      cases s <;> try rfl
      simp only [Sem.run_bind, hU, hU', Result.andThen_ok]

/-- append, and where the list lies then. -/
theorem run_append_mine (t ty e : TypeId) (i : TypeInfo) (z : Value) (ht : P.underlying t = some (.slice e)) (hi : P.info? e = some i) (hz : i.zero = some z) (hzs : z.cells.size = i.size)
    (v : Value) (n : Nat) (xs : List Value) (hown : w.ownsRow base e i.size v n xs)
    (A : Option Addr) (m c : Nat) (news : List Value) (hl : news.length = m * i.size) (hnews : ∀ ad, A = some ad → ∀ (j : Nat) (u : Value), news[j]? = some u → w.cell? (ad.add j) = some u) (hA : 0 < m → A.isSome = true) (h1 : ∀ u ∈ news, u.oneCell' = true)
    (hbytes : (n + m) * i.bytes ≤ 140737488355328) (hby : 0 < i.bytes) (hbase : base ≤ w.heap.size) :
    ∃ v' w', (Builtin.append_ #[t, t] ty #[v, .slice A m c]).run P w = .ok v' w' ∧ w'.ownsRow base e i.size v' (n + m) (xs ++ news) ∧
      ((w.grownBy w' none ∧ v'.ownBlock = some w.heap.size) ∨ (v'.ownBlock = v.ownBlock ∧ w.grownBy w' v.ownBlock ∧ ∀ g, v.ownBlock = some g → ∀ off, off < n * i.size → w'.cell? ⟨g, off, none⟩ = w.cell? ⟨g, off, none⟩)) := by
  have h63 : n + m ≤ maxLen := by
    have := Nat.le_trans (Nat.le_mul_of_pos_right (n + m) hby) hbytes
    simp only [maxLen]; omega
  have hlen : (xs ++ news).length = (n + m) * i.size := by rw [List.length_append, hown.1, hl, Nat.add_mul]
  rcases Nat.eq_zero_or_pos m with hm | hm
  · subst hm
    have hn : news = [] := List.eq_nil_of_length_eq_zero (by simpa using hl)
    subst hn
    refine ⟨v, w, ?_, by simpa using hown, .inr ⟨rfl, ⟨rfl, rfl, rfl, Nat.le_refl _, fun _ _ _ => rfl⟩, fun _ _ _ _ => rfl⟩⟩
    rcases hown.2 with ⟨rfl, rfl⟩ | ⟨g, cap, cur, rfl, _, _, hnc, _⟩
    · cases A <;> simp [Builtin.append_, underlying, ht, sizeOf, typeInfo, hi, Builtin.lenOf, Builtin.firstCells, loadCells, loadCellsFrom]
    · cases A <;> simp [Builtin.append_, underlying, ht, sizeOf, typeInfo, hi, Builtin.lenOf, Builtin.firstCells, hnc, storeCells, loadCells, loadCellsFrom]
  · have hs := hA hm
    cases A with
    | none => simp at hs
    | some ad =>
      have hnews' := hnews ad rfl
      rcases hown.2 with ⟨rfl, rfl⟩ | ⟨g, cap, cur, rfl, hbg, hg, hnc, hcm, hcs, htake⟩
      · have hx : xs = [] := List.eq_nil_of_length_eq_zero (by simpa using hown.1)
        subst hx
        have hr := run_append_nil (P := P) w t ty e i z ht hi hz ad m c news hl hnews' hm (by simp only [maxLen] at h63; omega) (by have hb := hbytes; simp only [Nat.zero_add] at hb; omega)
        refine ⟨_, _, hr, ⟨by simpa using hl, .inr ⟨w.heap.size, _, _, by simp, hbase, heap_alloc_new w.drew _, ?_, grownCap_le_maxLen w m 0 e (by omega), ?_, ?_⟩⟩, .inl ⟨⟨rfl, rfl, rfl, by simp, fun k hk _ => heap_alloc_old w.drew _ hk⟩, rfl⟩⟩
        · simpa using grownCap_ge w m 0 e
        · have := grownCap_ge w m 0 e
          simp only [Array.size_append, List.size_toArray, size_zeroCells, hzs, hl, ← Nat.add_mul]
          congr 1
          omega
        · simp only [Array.toList_append, Nat.zero_add, List.nil_append]
          rw [← hl]
          exact List.take_left
      · by_cases hroom : n + m ≤ cap
        · have hfit : n * i.size + news.length ≤ cur.size := by rw [hl, hcs, ← Nat.add_mul]; exact Nat.mul_le_mul_right _ hroom
          have hr := run_append_room (P := P) w t ty e i ht hi g n cap cur hg ad m c news hl hnews' h1 hroom hfit
          have hown' : (w.setRow g (cur.toList.take (n * i.size) ++ news ++ cur.toList.drop (n * i.size + news.length)).toArray).ownsRow base e i.size (.slice (some ⟨g, 0, none⟩) (n + m) cap) (n + m) (xs ++ news) := by
            refine ⟨hlen, .inr ⟨g, cap, _, rfl, hbg, setRow_heap w g cur _ e _ hg, hroom, hcm, ?_, ?_⟩⟩
            · simp only [List.size_toArray, List.length_append, List.length_take, List.length_drop, Array.length_toList]
              omega
            · rw [htake, ← hlen]
              exact List.take_left
          refine ⟨_, _, hr, hown', .inr ⟨rfl, ⟨rfl, rfl, rfl, by simp, fun k hk hk' => setRow_other w g k _ (fun e => hk' (by simp [Value.ownBlock, e]))⟩, fun g' hg' off hoff => ?_⟩⟩
          simp only [Value.ownBlock, Option.some.injEq] at hg'
          subst hg'
          have hxl : off < xs.length := by rw [hown.1]; exact hoff
          have c1 := hown.cells (g := g) rfl off _ (List.getElem?_eq_getElem hxl)
          have c2 := hown'.cells (g := g) rfl off _ (by rw [List.getElem?_append_left hxl]; exact List.getElem?_eq_getElem hxl)
          rw [add_lit, Nat.zero_add] at c1 c2
          rw [c1, c2]
        · have holds : ∀ (j : Nat) (u : Value), xs[j]? = some u → w.cell? ((⟨g, 0, none⟩ : Addr).add j) = some u := hown.cells (g := g) rfl
          have hr := run_append_grow (P := P) w t ty e i z ht hi hz ⟨g, 0, none⟩ n cap xs hown.1 holds ad m c news hl hnews' (by omega) (by simp only [maxLen] at h63; omega) (growslice_fits (by omega) hbytes)
          have hge := grownCap_ge w (n + m) cap e
          refine ⟨_, _, hr, ⟨hlen, .inr ⟨w.heap.size, _, _, rfl, hbase, heap_alloc_new w.drew _, hge, grownCap_le_maxLen w (n + m) cap e h63, ?_, ?_⟩⟩, .inl ⟨⟨rfl, rfl, rfl, by simp, fun k hk _ => heap_alloc_old w.drew _ hk⟩, rfl⟩⟩
          · simp only [Array.size_append, List.size_toArray, size_zeroCells, hzs, hown.1, hl, ← Nat.add_mul]
            congr 1
            omega
          · simp only [Array.toList_append, List.append_assoc]
            rw [← List.append_assoc, ← hlen]
            exact List.take_left

/-- What is put behind a list: rows that are read. -/
structure Src (Z : Zone) (w : World) (sz : Nat) (xs : List (List C)) (v : Value) : Prop where
  out : ∃ (A : Option Addr) (cap : Nat) (news : List Value), v = .slice A xs.length cap ∧ news.length = xs.length * sz ∧ (∀ ad, A = some ad → ∀ (j : Nat) (u : Value), news[j]? = some u → w.cell? (ad.add j) = some u) ∧
    (0 < xs.length → A.isSome = true) ∧ ∀ (j : Nat) (row : List C) (i : Nat) (c : C) (u : Value), xs[j]? = some row → row[i]? = some c → news[j * sz + i]? = some u → CR Z w c u
theorem range_get (n : Nat) (f : Nat → Value) (j : Nat) : ((List.range n).map f)[j]? = if j < n then some (f j) else none := by
  rw [List.getElem?_map]
  by_cases h : j < n
  · rw [List.getElem?_range h, if_pos h]; rfl
  · rw [if_neg h, List.getElem?_eq_none (by simpa using Nat.le_of_not_lt h)]; rfl
theorem Src.sl {sz : Nat} {xs : List (List C)} {v : Value} (h : CR Z w (.sl xs) v) (hr : ∀ row ∈ xs, row.length = sz) (hs0 : 0 < sz) : Src Z w sz xs v := by
  obtain ⟨A, cap, sz', vals, hv, hcap, hmax, hA, hrl, hcell, hval⟩ := h.sl_inv
  have hsz : 0 < xs.length → sz' = sz := fun hp => by
    have := hrl 0 _ (List.getElem?_eq_getElem hp)
    rw [← this]
    exact hr _ (List.getElem_mem hp)
  have hdm : ∀ j, j < xs.length * sz → j / sz < xs.length ∧ j % sz < sz ∧ j / sz * sz + j % sz = j := fun j hj =>
    ⟨by rw [Nat.div_lt_iff_lt_mul hs0]; exact hj, Nat.mod_lt _ hs0, by rw [Nat.mul_comm]; exact Nat.div_add_mod j sz⟩
  refine ⟨A, cap, (List.range (xs.length * sz)).map (fun k => vals (k / sz) (k % sz)), hv, by simp, fun ad hAd j u hu => ?_, hA, fun j row i c u h1 h2 h3 => ?_⟩
  · rw [range_get] at hu
    split at hu
    · rename_i hj
      obtain ⟨d1, d2, d3⟩ := hdm j hj
      have hs := hsz (Nat.lt_of_le_of_lt (Nat.zero_le _) d1)
      have d4 : j % sz < sz' := by rw [hs]; exact d2
      have := (hcell ad hAd (j / sz) d1 (j % sz) d4).2
      rw [hs, d3] at this
      rw [this]
      exact hu
    · cases hu
  · rw [range_get] at h3
    split at h3
    · have hi : i < sz := by rw [← hr row (List.mem_of_getElem? h1)]; exact (List.getElem?_eq_some_iff.1 h2).1
      have e1 : (j * sz + i) / sz = j := by rw [Nat.mul_comm, Nat.mul_add_div hs0, Nat.div_eq_of_lt hi, Nat.add_zero]
      have e2 : (j * sz + i) % sz = i := by rw [Nat.mul_comm, Nat.mul_add_mod, Nat.mod_eq_of_lt hi]
      simp only [Option.some.injEq, e1, e2] at h3
      subst h3
      exact hval j row i c h1 h2
    · cases h3
theorem Src.own {sz e b : Nat} {xs : List (List C)} {v : Value} (hW : WR base w0 Z β cr lv fz bx w) (hx : AR Z w β cr (.own b) v) (hlv : lv b) (hb : bx b = some (.rows e sz xs)) : Src Z w sz xs v := by
  have hx' : v = β b := by cases hx; rfl
  subst hx'
  obtain ⟨xx, hxx, hB⟩ := hW.box b hlv
  rw [hb] at hxx
  injection hxx with hxx
  subst hxx
  cases hB with
  | rows e sz rs inner hown hr hc ht hz =>
    rcases hown.2 with ⟨hv, hn⟩ | ⟨g, cap, cur, hv, hrest⟩
    · have hx0 : xs = [] := List.eq_nil_of_length_eq_zero hn
      subst hx0
      exact ⟨none, 0, [], hv, by simp, fun ad h => by simp at h, by simp, fun j row i c u h => by simp at h⟩
    · exact ⟨some ⟨g, 0, none⟩, cap, inner, hv, hown.1, fun ad hAd j u hu => by
        injection hAd with hAd
        subst hAd
        exact hown.cells (g := g) (by rw [hv]; rfl) j u hu, by simp, hc⟩
theorem Src.nil {sz : Nat} {v : Value} (hx : AR Z w β cr .nil v) : Src Z w sz [] v := by
  cases hx
  exact ⟨none, 0, [], rfl, by simp, fun ad h => by simp at h, by simp, fun j row i c u h => by simp at h⟩

/-- What a list is put behind: one of one's own, or nil. -/
def Dst (lv : Nat → Prop) (bx : Nat → Option Bx) (e sz : Nat) (rs : List (List C)) (kill : List Nat) (x : AV) : Prop :=
  (x = .nil ∧ rs = [] ∧ kill = []) ∨ ∃ b, x = .own b ∧ kill = [b] ∧ lv b ∧ bx b = some (.rows e sz rs)

theorem op_append {t t' e e' : TypeId} {x y : Operand} {r : AV} {it it' ie : TyI} {rs xs : List (List C)} {kill : List Nat} {fr : Bool} (ho : o.op = .call { callee := .builtin .append, args := #[x, y], argTypes := #[t, t'] })
    (hty : tyOk P t it = true) (hsl : it.sl = some e) (hty' : tyOk P t' it' = true) (hsl' : it'.sl = some e') (hte : tyOk P e ie = true) (hz : ie.zero ≠ []) (hby : 0 < ie.bytes)
    (hW : WR base w0 Z β cr lv fz bx w) (hnb : ¬ cr nb) (hbx : bx nb = some (.rows e ie.n (rs ++ xs)))
    (hx : AR Z w β cr r (a.eval x)) (hd : Dst lv bx e ie.n rs kill r) (hs : Src Z w ie.n xs (a.eval y)) (hxl : ∀ row ∈ xs, row.length = ie.n)
    (hbytes : (rs.length + xs.length) * ie.bytes ≤ 140737488355328) (hfr : ∀ b, b ∈ kill → fz b → fr = true) :
    OpRun P o a w (Post base w0 Z β cr lv fz bx nb { res := .own nb, nw := some (.rows e ie.n (rs ++ xs)), kill, frz := if fr then [nb] else [] } w) := by
  have hu := (tyOk_spec hty).2.2.1 e hsl
  have hu' := (tyOk_spec hty').2.2.1 e' hsl'
  obtain ⟨inf, hinf, hinfn, hinfb, hzero⟩ := (tyOk_spec hte).2.1
  obtain ⟨z, hz1, hz2, hz3, hz4⟩ := hzero hz
  obtain ⟨A, cap, news, hyv, hnl, hnews, hA, hnv⟩ := hs.out
  generalize hxv : a.eval x = v at hx
  -- the list as it is
  have hold : ∃ inner, w.ownsRow base e ie.n v rs.length inner ∧ (∀ (j : Nat) (row : List C), rs[j]? = some row → row.length = ie.n) ∧
      (∀ (j : Nat) (row : List C) (i : Nat) (c : C) (u : Value), rs[j]? = some row → row[i]? = some c → inner[j * ie.n + i]? = some u → CR Z w c u) ∧
      (∀ g, v.ownBlock = some g → (∀ a, Z a → a.block = g → a.off < rs.length * ie.n) ∧ (fr = false → ∀ a, Z a → a.block ≠ g) ∧ ∃ b, b ∈ kill ∧ lv b ∧ blk (β b) = some g) := by
    rcases hd with ⟨rfl, rfl, rfl⟩ | ⟨b, rfl, rfl, hlv, hb⟩
    · cases hx
      exact ⟨[], World.ownsRow_nil w base e ie.n, by simp, by simp, fun g h => by simp [Value.ownBlock] at h⟩
    · have hvb : v = β b := by cases hx; rfl
      obtain ⟨xx, hxx, hB⟩ := hW.box b hlv
      rw [hb] at hxx
      injection hxx with hxx
      subst hxx
      cases hB with
      | rows e sz rs inner hown hr hc ht hzz =>
        rw [hvb]
        exact ⟨inner, hown, hr, hc, fun g h => ⟨ht g h, fun hf => hzz (fun hfz => by have := hfr b (by simp) hfz; simp [this] at hf) g h, b, by simp, hlv, blk_ownBlock _ _ h⟩⟩
  obtain ⟨inner, hown, hr, hc, hblk⟩ := hold
  have h1 : ∀ u ∈ news, u.oneCell' = true := fun u hu => by
    obtain ⟨k, hk⟩ := List.mem_iff_getElem?.1 hu
    have hkl : k < xs.length * ie.n := by rw [← hnl]; exact (List.getElem?_eq_some_iff.1 hk).1
    have hn0 : 0 < ie.n := by rcases Nat.eq_zero_or_pos ie.n with h | h; (rw [h] at hkl; omega); exact h
    have d1 : k / ie.n < xs.length := by rw [Nat.div_lt_iff_lt_mul hn0]; exact hkl
    have hrow := List.getElem?_eq_getElem d1
    have hl := hxl _ (List.getElem_mem d1)
    have d2 : k % ie.n < (xs[k / ie.n]).length := by rw [hl]; exact Nat.mod_lt _ hn0
    refine (hnv _ _ (k % ie.n) _ u hrow (List.getElem?_eq_getElem d2) ?_).one
    rw [show k / ie.n * ie.n + k % ie.n = k by rw [Nat.mul_comm]; exact Nat.div_add_mod k ie.n]
    exact hk
  obtain ⟨v', w', hrun, hown', hwhere⟩ := run_append_mine (P := P) (w := w) (base := base) t o.type e inf z hu hinf hz1 (by omega) v rs.length inner (by rw [hinfn]; exact hown) A xs.length cap news (by rw [hinfn]; exact hnl) hnews hA h1 (by rw [hinfb]; exact hbytes) (by omega) hW.hbase
  rw [hinfn] at hown' hwhere
  have hlen : rs.length + xs.length = (rs ++ xs).length := by simp
  have he : Ext Z Z w w' := by
    rcases hwhere with ⟨hg, _⟩ | ⟨_, hg, hkeep⟩
    · exact ext_of_grown hg hW.zin (fun a _ => by simp)
    · refine ⟨fun _ h => h, fun a ha => ?_⟩
      by_cases hb : v.ownBlock = some a.block
      · have hoff := (hblk _ hb).1 a ha rfl
        have hsp := hW.zsp a ha
        have := hkeep a.block hb a.off hoff
        cases a with | mk ab ao as =>
        simp only at hsp
        subst hsp
        exact this
      · exact World.cell?_of_block (hg.block a.block (hW.zin a ha) (fun e => hb e.symm))
  have hgr : w.grownBy w' v.ownBlock := by
    rcases hwhere with ⟨hg, _⟩ | ⟨_, hg, _⟩
    · exact ⟨hg.os, hg.tape, hg.output, hg.size, fun k hk _ => hg.block k hk (by simp)⟩
    · exact hg
  have hvb : ∀ g, v'.ownBlock = some g → (w.heap.size ≤ g) ∨ v.ownBlock = some g := fun g hg => by
    rcases hwhere with ⟨_, hv⟩ | ⟨hv, _⟩
    · rw [hv] at hg; injection hg with hg; exact .inl (by omega)
    · rw [hv] at hg; exact .inr hg
  have hb2 : ∀ g, blk v' = some g → v'.ownBlock = some g := fun g hg => by
    rcases hown'.2 with ⟨rfl, _⟩ | ⟨g', cap', cur', rfl, _⟩
    · simp [blk] at hg
    · exact hg
  refine .value (v := v') (w' := w') ?_ ?_
  · simp only [execOp, ho, resolve, invoke, builtin, Sem.run_bind, Sem.run_pure, Result.andThen_ok, List.map_toArray, List.map_cons, List.map_nil, hxv, hyv, append_types t t' o.type e e' hu hu', hrun]
  · refine Post.renew (row := v.ownBlock) (u := v') hW hnb hbx hgr he (fun k hk => ?_) (fun g hg b hl hnk e1 => ?_) (fun β' cr' fz' hb hcn hun hfz => ?_) (fun β' cr' hb hcn hun => by rw [← hun]; exact .own nb hcn)
    · obtain ⟨_, _, b0, hk0, hl0, hb0⟩ := hblk k hk
      obtain ⟨y, hy, hB⟩ := hW.box b0 hl0
      have hnl : y.isLp = false := by
        rcases hd with ⟨_, _, hk'⟩ | ⟨b', _, hk', _, hb'⟩
        · rw [hk'] at hk0; simp at hk0
        · rw [hk', List.mem_singleton] at hk0
          subst hk0
          rw [hb'] at hy
          injection hy with hy
          subst hy
          rfl
      refine ⟨(hB.blk_base hb0).1, hB.isCells hnl hb0, fun b hl hnk e1 => ?_⟩
      exact hW.dis b b0 k hl hl0 (fun e => hnk (e ▸ hk0)) e1 hb0
    · rcases hvb g (hb2 g hg) with h | h
      · obtain ⟨y, hy, hB⟩ := hW.box b hl
        have := (hB.blk_base e1).2
        omega
      · obtain ⟨_, _, b0, hk0, hl0, hb0⟩ := hblk g h
        exact hW.dis b b0 g hl hl0 (fun e => hnk (e ▸ hk0)) e1 hb0
    · refine .rows e ie.n (rs ++ xs) (inner ++ news) (by rw [hun, ← hlen]; exact hown') (fun j row hj => ?_) (fun j row i c u h1 h2 h3 => ?_) (fun g hg a ha e1 => ?_) (fun hn g hg a ha e1 => ?_)
      · rcases List.mem_append.1 (List.mem_of_getElem? hj) with h | h
        · obtain ⟨k, hk⟩ := List.mem_iff_getElem?.1 h
          exact hr k row hk
        · exact hxl row h
      · by_cases hj : j < rs.length
        · rw [List.getElem?_append_left hj] at h1
          have hi : i < ie.n := by rw [← hr j row h1]; exact (List.getElem?_eq_some_iff.1 h2).1
          have hlt : j * ie.n + i < inner.length := by
            rw [hown.1]
            have : j * ie.n + ie.n ≤ rs.length * ie.n := by rw [← Nat.succ_mul]; exact Nat.mul_le_mul_right _ hj
            omega
          rw [List.getElem?_append_left hlt] at h3
          exact (hc j row i c u h1 h2 h3).ext he
        · rw [List.getElem?_append_right (by omega)] at h1
          have hge : inner.length ≤ j * ie.n + i := by
            rw [hown.1]
            have : rs.length * ie.n ≤ j * ie.n := Nat.mul_le_mul_right _ (by omega)
            omega
          rw [List.getElem?_append_right hge, hown.1, show j * ie.n + i - rs.length * ie.n = (j - rs.length) * ie.n + i by
            rw [Nat.sub_mul]
            have : rs.length * ie.n ≤ j * ie.n := Nat.mul_le_mul_right _ (by omega)
            omega] at h3
          exact (hnv _ row i c u h1 h2 h3).ext he
      · rw [hun] at hg
        rcases hvb g hg with h | h
        · have := hW.zin a ha
          omega
        · have := (hblk g h).1 a ha e1
          rw [List.length_append, Nat.add_mul]
          omega
      · rw [hun] at hg
        rcases hvb g hg with h | h
        · have := hW.zin a ha
          omega
        · cases fr with
          | true => exact hn (hfz (by simp))
          | false => exact (hblk g h).2.1 rfl a ha e1

/-- The first ones of a list of one's own; none of what falls away is laid aside. -/
theorem op_cut {t : TypeId} {x y : Operand} {it ie : TyI} {e b hi : Nat} {k : IntKind} {rs : List (List C)} (ho : o.op = .slice t x none (some y) none) (hty : tyOk P t it = true) (hsl : it.sl = some e) (hte : tyOk P e ie = true)
    (hW : WR base w0 Z β cr lv fz bx w) (hnb : ¬ cr nb) (hbx : bx nb = some (.rows e ie.n (rs.take hi)))
    (hx : AR Z w β cr (.own b) (a.eval x)) (hlv : lv b) (hb : bx b = some (.rows e ie.n rs)) (hnf : ¬ fz b) (hy : AR Z w β cr (.c (.sc (.int k hi))) (a.eval y)) (hle : hi ≤ rs.length) :
    OpRun P o a w (Post base w0 Z β cr lv fz bx nb { res := .own nb, nw := some (.rows e ie.n (rs.take hi)), kill := [b] } w) := by
  have hu := (tyOk_spec hty).2.2.1 e hsl
  obtain ⟨inf, hinf, hinfn, _⟩ := (tyOk_spec hte).2.1
  have hU : (underlying t).run P w = .ok (.slice e) w := by simp [underlying, hu]
  have hS : (sizeOf e).run P w = .ok ie.n w := by simp [sizeOf, typeInfo, hinf, hinfn]
  have hvb : a.eval x = β b := by
    generalize hq : a.eval x = q at hx
    cases hx; rfl
  obtain ⟨xx, hxx, hB⟩ := hW.box b hlv
  rw [hb] at hxx
  injection hxx with hxx
  subst hxx
  have hI : ∀ (k : IntKind) (i y : Nat) (code : Go.BoundsCode), i ≤ y → (Instr.sliceBound (.int k (i : Int)) y code).run P w = .ok i w := fun k i y code h => by
    have : 0 ≤ (i : Int) ∧ (i : Int) ≤ (y : Int) := ⟨by omega, by omega⟩
    simp [Instr.sliceBound, asIntOf, this]
  cases hB with
  | rows e sz rs inner hown hr hc ht hzz =>
    have hrows : ∀ (v : Value), v = β b → ∀ A cap, v = .slice A rs.length cap → hi ≤ cap → (w.ownsRow base e ie.n (.slice A hi cap) hi (inner.take (hi * ie.n))) →
        OpRun P o a w (Post base w0 Z β cr lv fz bx nb { res := .own nb, nw := some (.rows e ie.n (rs.take hi)), kill := [b] } w) := fun v hv A cap hvs hcap hown' => by
      have hth : (rs.take hi).length = hi := by simp; omega
      refine .value (v := .slice A hi cap) (w' := w) ?_ ?_
      · simp only [execOp, ho, hvb, ← hv, hvs, Instr.sliceAt, Instr.slice, Instr.sliceBounds, Option.map_none, Option.map_some, hy.sc_inv.1, Sem.run_bind, hU, hS, Sem.run_pure, Result.andThen_ok, hI k hi cap _ hcap, Nat.sub_zero, Nat.zero_mul]
        congr 2
        split
        · rfl
        · cases A <;> simp [Addr.add]
      · have hsame : blk (.slice A hi cap) = blk (β b) := by rw [← hv, hvs]; cases A <;> rfl
        have hob : (Value.slice A hi cap).ownBlock = (β b).ownBlock := by rw [← hv, hvs]; cases A <;> rfl
        refine Post.renew (row := none) (u := .slice A hi cap) hW hnb hbx ⟨rfl, rfl, rfl, Nat.le_refl _, fun _ _ _ => rfl⟩ (Ext.refl _ _) (fun k h => by cases h) (fun g hg b' hl hk e1 => ?_) (fun β' cr' fz' hbb hcn hun _ => ?_) (fun β' cr' hbb hcn hun => by rw [← hun]; exact .own nb hcn)
        · rw [hsame] at hg
          exact hW.dis b' b g hl hlv (fun e => hk (by simp [e])) e1 hg
        · refine .rows e ie.n (rs.take hi) (inner.take (hi * ie.n)) (by rw [hun, hth]; exact hown') (fun j row hj => ?_) (fun j row i c u h1 h2 h3 => ?_) (fun g hg a ha e1 => ?_) (fun _ g hg a ha e1 => ?_)
          · rw [List.getElem?_take] at hj
            split at hj
            · exact hr j row hj
            · cases hj
          · rw [List.getElem?_take] at h1 h3
            split at h1
            · split at h3
              · exact (hc j row i c u h1 h2 h3).ext ⟨fun _ h => h, fun _ _ => rfl⟩
              · cases h3
            · cases h1
          · rw [hun, hob] at hg
            exact absurd e1 (hzz hnf g hg a ha)
          · rw [hun, hob] at hg
            exact hzz hnf g hg a ha e1
    rcases hown.2 with ⟨hv, hn⟩ | ⟨g, cap, cur, hv, hbs, hh, hnc, hcm, hcs, htake⟩
    · have h0 : hi = 0 := by omega
      subst h0
      refine hrows _ rfl none 0 (by rw [hv, hn]) (Nat.le_refl _) ⟨by simp, .inl ⟨rfl, rfl⟩⟩
    · refine hrows _ rfl (some ⟨g, 0, none⟩) cap hv (by omega) ⟨?_, .inr ⟨g, cap, cur, rfl, hbs, hh, by omega, hcm, hcs, ?_⟩⟩
      · rw [List.length_take, hown.1]
        exact Nat.min_eq_left (Nat.mul_le_mul_right _ hle)
      · rw [← htake, List.take_take, Nat.min_eq_left (Nat.mul_le_mul_right _ hle)]
end
end Go.Vam

/- An abstract machine over data (part 6): what is laid aside, contracts, calls, functions that capture, stores. -/
namespace Go.Vam
open Go.RowKit
set_option linter.unusedVariables false
set_option linter.unnecessarySimpa false
set_option linter.unusedSimpArgs false

/-! ### 1. To lay aside -/
def extent : Option Bx → Nat
  | some (.cells cs) => cs.length
  | some (.rows _ sz rs) => rs.length * sz
  | some (.lp _ _ _ _ _ _ _) => 0
  | some (.mp _) => 0
  | none => 0
def ZF (Z : Zone) (β : Nat → Value) (bx : Nat → Option Bx) (frz : List Nat) : Zone := fun a => Z a ∨ (a.spot = none ∧ ∃ b, b ∈ frz ∧ blk (β b) = some a.block ∧ a.off < extent (bx b))
theorem ZF.ext (Z : Zone) (β : Nat → Value) (bx : Nat → Option Bx) (frz : List Nat) (w : World) : Ext Z (ZF Z β bx frz) w w := ⟨fun _ h => .inl h, fun _ _ => rfl⟩

section
variable {P : Program} {tt : TT} {base : Nat} {w0 : World} {Z : Zone} {β : Nat → Value} {cr lv fz : Nat → Prop} {bx : Nat → Option Bx} {nb : Nat} {w : World} {a : Act} {o : Oper}

theorem WR.freeze (hW : WR base w0 Z β cr lv fz bx w) (frz : List Nat) (hl : ∀ b ∈ frz, lv b) : WR base w0 (ZF Z β bx frz) β cr lv (fun b => fz b ∨ b ∈ frz) bx w := by
  refine ⟨hW.below, hW.hbase, fun a ha => ?_, fun a ha => ?_, fun b hb => ?_, hW.dis, hW.sub, hW.oth⟩
  · rcases ha with ha | ⟨_, b, hb, hg, _⟩
    · exact hW.zin a ha
    · obtain ⟨x, hx, hB⟩ := hW.box b (hl b hb)
      exact (hB.blk_base hg).2
  · rcases ha with ha | ⟨h, _⟩
    · exact hW.zsp a ha
    · exact h
  · obtain ⟨x, hx, hB⟩ := hW.box b hb
    refine ⟨x, hx, hB.ext (ZF.ext Z β bx frz w) (fun b h => ⟨h, rfl⟩) (hW.sub b hb) (fun _ _ => rfl) (fun g hg a ha e => ?_) .inl⟩
    rcases ha with ha | ⟨_, b', hb', hg', hoff⟩
    · exact .inl ha
    · refine .inr ?_
      have hbb : b' = b := by
        rcases Nat.decEq b' b with hne | he
        · exact absurd (e ▸ hg') (hW.dis b b' g hb (hl b' hb') (fun h => hne h.symm) hg)
        · exact he
      subst hbb
      refine ⟨.inr hb', ?_, fun e' sz rs hxe => ?_⟩
      · rw [hx] at hoff
        cases x
        · rfl
        · rfl
        · simp [extent] at hoff
        · simp [extent] at hoff
      · rw [hx, hxe] at hoff
        exact hoff

theorem ZF_base (hW : WR base w0 Z β cr lv fz bx w) (frz : List Nat) (hl : ∀ b ∈ frz, lv b) : ∀ a, ZF Z β bx frz a → ¬ Z a → base ≤ a.block := fun a h1 h2 => by
  rcases h1 with h1 | ⟨_, b, hb, hg, _⟩
  · exact absurd h1 h2
  · obtain ⟨x, hx, hB⟩ := hW.box b (hl b hb)
    exact (hB.blk_base hg).1
/-- A list of one's own that is laid aside is data. -/
theorem CR.ofOwn {b e sz : Nat} {rs : List (List C)} {frz : List Nat} (hW : WR base w0 Z β cr lv fz bx w) (hlv : lv b) (hb : bx b = some (.rows e sz rs)) (hf : b ∈ frz) : CR (ZF Z β bx frz) w (.sl rs) (β b) := by
  obtain ⟨xx, hxx, hB⟩ := hW.box b hlv
  rw [hb] at hxx
  injection hxx with hxx
  subst hxx
  cases hB with
  | rows e sz rs inner hown hr hc ht hz =>
    rcases hown.2 with ⟨hv, hn⟩ | ⟨g, cap, cur, hv, hbs, hh, hnc, hcm, hcs, htake⟩
    · have h0 : rs = [] := List.eq_nil_of_length_eq_zero hn
      subst h0
      rw [hv]
      exact CR.nil _ _
    · rw [hv]
      refine .sl rs _ cap sz (fun j i => inner.getD (j * sz + i) undef) hnc (by simp only [maxLen] at hcm; omega) (by simp) hr (fun ad hAd j hj i hi => ?_) (fun j row i c h1 h2 => ?_)
      · injection hAd with hAd
        subst hAd
        have hlt : j * sz + i < rs.length * sz := by
          have : j * sz + sz ≤ rs.length * sz := by rw [← Nat.succ_mul]; exact Nat.mul_le_mul_right _ hj
          omega
        have hli : j * sz + i < inner.length := by rw [hown.1]; exact hlt
        refine ⟨?_, ?_⟩
        · rw [add_lit, Nat.zero_add]
          exact .inr ⟨rfl, b, hf, by rw [hv]; rfl, by rw [hb]; exact hlt⟩
        · rw [getD_of (List.getElem?_eq_getElem hli)]
          exact hown.cells (g := g) (by rw [hv]; rfl) _ _ (List.getElem?_eq_getElem hli)
      · have hj := (List.getElem?_eq_some_iff.1 h1).1
        have hi : i < sz := by rw [← hr j row h1]; exact (List.getElem?_eq_some_iff.1 h2).1
        have hlt : j * sz + i < inner.length := by
          rw [hown.1]
          have : j * sz + sz ≤ rs.length * sz := by rw [← Nat.succ_mul]; exact Nat.mul_le_mul_right _ hj
          omega
        rw [getD_of (List.getElem?_eq_getElem hlt)]
        exact (hc j row i c _ h1 h2 (List.getElem?_eq_getElem hlt)).ext (ZF.ext _ _ _ _ _)
/-- A box of data that is laid aside. -/
theorem AR.ofCells {b g : Nat} {cs : List AV} {frz : List Nat} {β' : Nat → Value} {cr' : Nat → Prop} (hW : WR base w0 Z β cr lv fz bx w) (hlv : lv b) (hb : bx b = some (.cells cs)) (hf : b ∈ frz) (hg : β b = .pointer (some ⟨g, 0, none⟩)) (hC : cs.all isC = true) :
    AR (ZF Z β bx frz) w β' cr' (.pt (cs.map toC)) (.pointer (some ⟨g, 0, none⟩)) := by
  obtain ⟨xx, hxx, hB⟩ := hW.box b hlv
  rw [hb] at hxx
  injection hxx with hxx
  subst hxx
  cases hB with
  | cells cs g' arr t hv hg' hh hl hc hz =>
    have hgg : g' = g := by rw [hv] at hg; simpa using hg
    subst hgg
    refine .pt _ _ (fun i => arr.getD i undef) (fun i hi => ?_) (fun i c h1 => ?_)
    · rw [List.length_map] at hi
      rw [add_lit, Nat.zero_add]
      refine ⟨.inr ⟨rfl, b, hf, by rw [hv]; rfl, by rw [hb]; exact hi⟩, ?_⟩
      rw [cell_of_row w g' i arr t (0, 0) hh]
      have : i < arr.size := by omega
      simp [this]
    · rw [List.getElem?_map] at h1
      cases hx : cs[i]? with
      | none => rw [hx] at h1; simp at h1
      | some x =>
        rw [hx] at h1
        simp only [Option.map_some, Option.some.injEq] at h1
        subst h1
        have hlt : i < arr.size := by have := (List.getElem?_eq_some_iff.1 hx).1; omega
        rw [List.all_eq_true] at hC
        exact (toC_sound (hc i x _ hx (by simp [hlt])) (hC x (List.mem_of_getElem? hx))).ext (ZF.ext _ _ _ _ _)

/-! ### 2. Contracts -/
def Enters (P : Program) (f : FuncId) : Prop := ∀ args w, (callFunc f args).run P w = .ok (.enter f args) w
abbrev OwnR (base : Nat) (Z : Zone) (w : World) (e sz : Nat) (rs : List (List C)) (v : Value) : Prop :=
  ∃ inner, w.ownsRow base e sz v rs.length inner ∧ (∀ (j : Nat) (row : List C), rs[j]? = some row → row.length = sz) ∧
      (∀ (j : Nat) (row : List C) (i : Nat) (c : C) (u : Value), rs[j]? = some row → row[i]? = some c → inner[j * sz + i]? = some u → CR Z w c u) ∧
      (∀ g, v.ownBlock = some g → ∀ a, Z a → a.block ≠ g)
def RetR (base : Nat) (Z : Zone) (w : World) : Ret → Value → Prop
  | .v x, v => AR Z w (fun _ => undef) (fun _ => False) x v
  | .own e sz rs, v => OwnR base Z w e sz rs v
  | .mix pre e sz rs post, v => ∃ vs : Array Value, v = .tuple vs ∧ vs.size = pre.length + 1 + post.length ∧
      (∀ (i : Nat) (x : AV) (u : Value), pre[i]? = some x → vs[i]? = some u → AR Z w (fun _ => undef) (fun _ => False) x u) ∧
      (∀ (i : Nat) (x : AV) (u : Value), post[i]? = some x → vs[pre.length + 1 + i]? = some u → AR Z w (fun _ => undef) (fun _ => False) x u) ∧
      ∃ u, vs[pre.length]? = some u ∧ OwnR base Z w e sz rs u
/-- The list of one's own that is told. -/
def retNw : Ret → Option Bx
  | .v _ => none
  | .own e sz rs => some (.rows e sz rs)
  | .mix _ e sz rs _ => some (.rows e sz rs)
def retRes (nb : Nat) : Ret → AV
  | .v x => x
  | .own _ _ _ => .own nb
  | .mix pre _ _ _ post => .tup (pre ++ .own nb :: post)
/-- A call with these arguments gives this, and writes nothing that was there. -/
def Ok (P : Program) (f : FuncId) (args : List AV) (r : Ret) : Prop :=
  Enters P f ∧ ∀ (Z : Zone) (w : World) (vs : Array Value), (∀ a, Z a → a.block < w.heap.size) → (∀ a, Z a → a.spot = none) → vs.size = args.length →
    (∀ (i : Nat) (x : AV) (v : Value), args[i]? = some x → vs[i]? = some v → AR Z w (fun _ => undef) (fun _ => False) x v) →
    Calls P f vs w fun e w' => ∃ (v : Value) (Z' : Zone), e = .returned v ∧ Ext Z Z' w w' ∧ Below w.heap.size w w' ∧ (∀ a, Z' a → a.block < w'.heap.size) ∧ (∀ a, Z' a → a.spot = none) ∧
      (∀ a, Z' a → ¬ Z a → w.heap.size ≤ a.block) ∧ RetR w.heap.size Z' w' r v

def thawF (bx : Nat → Option Bx) : AV → AV
  | .own b => match bx b with
    | some (.rows _ _ rs) => .c (.sl rs)
    | _ => .any
  | .nil => .c (.sl [])
  | .ptr _ _ => .any
  | .optr _ _ => .any
  | .osl _ _ _ => .any
  | .tup _ => .any
  | .clo _ _ _ => .any
  | .yld _ => .any
  | x => x
theorem thaw_AR {x : AV} {v : Value} {frz : List Nat} (hW : WR base w0 Z β cr lv fz bx w) (h : AR Z w β cr x v) (hl : ∀ b ∈ frzOf x, lv b) (hf : ∀ b ∈ frzOf x, b ∈ frz) :
    AR (ZF Z β bx frz) w (fun _ => undef) (fun _ => False) (thawF bx x) v := by
  have he := ZF.ext Z β bx frz w
  cases h with
  | any v => exact .any v
  | und => exact .und
  | c x v h => exact .c x v (h.ext he)
  | agg cs vs hlen h => exact .agg cs vs hlen fun i c v h1 h2 => (h i c v h1 h2).ext he
  | pt cs a vals hc hv => exact .pt cs a vals (fun i hi => ⟨.inl (hc i hi).1, (hc i hi).2⟩) fun i c h1 => (hv i c h1).ext he
  | ptr => exact .any _
  | optr => exact .any _
  | osl => exact .any _
  | tup => exact .any _
  | clo => exact .any _
  | yld => exact .any _
  | nil => exact .c _ _ (CR.nil _ _)
  | own b hb =>
    have hlv := hl b (by simp [frzOf])
    simp only [thawF]
    split
    · rename_i e sz rs hbx
      exact .c _ _ (CR.ofOwn hW hlv hbx (hf b (by simp [frzOf])))
    · exact .any _

theorem op_callW {θ : AV → AV} (hθ : ∀ x, θ x = thawF bx x ∨ (x = .nil ∧ θ x = .nil)) {fo : Operand} {as : Array Operand} {ats : Array TypeId} {ρ : Operand → AV} {g : FuncId} {caps : List (List C)} {r : Ret} (ho : o.op = .call { callee := .value fo, args := as, argTypes := ats })
    (hW : WR base w0 Z β cr lv fz bx w) (hfo : AR Z w β cr (.c (.fn g caps)) (a.eval fo)) (hA : ∀ x ∈ as, AR Z w β cr (ρ x) (a.eval x)) (hl : ∀ x ∈ as, ∀ b ∈ frzOf (ρ x), lv b)
    (hok : Ok P g ((as.toList.map fun x => θ (ρ x)) ++ caps.map .pt) r) (hnb : ∀ y, retNw r = some y → ¬ cr nb ∧ ¬ fz nb ∧ bx nb = some y) :
    OpRun P o a w (Post base w0 Z β cr lv fz bx nb { res := retRes nb r, nw := retNw r, frz := as.toList.flatMap fun x => frzOf (ρ x) } w) := by
  obtain ⟨hent, hcalls⟩ := hok
  have hfrz : ∀ b ∈ as.toList.flatMap (fun x => frzOf (ρ x)), lv b := fun b hb => by
    obtain ⟨x, hx, hb⟩ := List.mem_flatMap.1 hb
    exact hl x (by simpa using hx) b hb
  generalize hfr : as.toList.flatMap (fun x => frzOf (ρ x)) = frz at *
  have hWf := hW.freeze frz hfrz
  have hfn : CR Z w (.fn g caps) (a.eval fo) := by generalize hq : a.eval fo = q at hfo; cases hfo with | c x v h => exact h
  generalize hq : a.eval fo = q at hfn
  cases hfn with
  | fn g caps ps vals hpl hpc hpv =>
    have hrun : (execOp a.eval o).run P w = .ok (.enter g (as.map a.eval ++ (ps.map fun a => Value.pointer (some a)).toArray)) w := by
      have h2 : (callFunc g (as.map a.eval ++ (ps.map fun a => Value.pointer (some a)).toArray)).run P w = .ok (.enter g (as.map a.eval ++ (ps.map fun a => Value.pointer (some a)).toArray)) w := hent _ w
      simp only [execOp, ho, resolve, hq, Deferred.ofValue, invoke, Sem.run_bind, Sem.run_pure, Result.andThen_ok, Array.empty_append, h2]
    unfold OpRun
    rw [hrun]
    refine (hcalls (ZF Z β bx frz) w _ hWf.zin hWf.zsp (by simp [hpl]) (fun i x v h1 h2 => ?_)).mono ?_
    · by_cases hi : i < as.size
      · rw [List.getElem?_append_left (by simpa using hi), List.getElem?_map] at h1
        rw [Array.getElem?_append_left (by simpa using hi), Array.getElem?_map] at h2
        have hx : as[i]? = some as[i] := Array.getElem?_eq_getElem hi
        rw [Array.getElem?_toList, hx] at h1
        rw [hx] at h2
        simp only [Option.map_some, Option.some.injEq] at h1 h2
        subst h1; subst h2
        have hmem : as[i] ∈ as := Array.getElem_mem hi
        rcases hθ (ρ as[i]) with hq' | ⟨hq', hq''⟩
        · rw [hq']
          exact thaw_AR hW (hA _ hmem) (hl _ hmem) (fun b hb => by rw [← hfr]; exact List.mem_flatMap.2 ⟨as[i], by simpa using hmem, hb⟩)
        · have h3 := hA _ hmem
          rw [hq'] at h3
          rw [hq'']
          generalize a.eval as[i] = q' at h3
          cases h3
          exact .nil
      · rw [List.getElem?_append_right (by simpa using hi), List.getElem?_map] at h1
        rw [Array.getElem?_append_right (by simpa using hi)] at h2
        simp only [List.length_map, Array.length_toList, Array.size_map, List.getElem?_toArray, List.getElem?_map] at h1 h2
        cases hc : caps[i - as.size]? with
        | none => rw [hc] at h1; simp at h1
        | some cs =>
          cases hp : ps[i - as.size]? with
          | none => rw [hp] at h2; simp at h2
          | some ad =>
            rw [hc] at h1
            rw [hp] at h2
            simp only [Option.map_some, Option.some.injEq] at h1 h2
            subst h1; subst h2
            exact .pt cs ad (vals (i - as.size)) (fun k hk => by
              obtain ⟨z1, z2⟩ := hpc _ ad cs hp hc k hk
              exact ⟨.inl z1, z2⟩) (fun k c hk => (hpv _ cs k c hc hk).ext (ZF.ext _ _ _ _ _))
    · rintro e w' ⟨v, Z', rfl, he, hb, hz1, hz2, hz3, hret⟩
      refine ⟨v, rfl, ?_⟩
      have he0 : Ext Z Z' w w' := (ZF.ext Z β bx frz w).trans he
      have hblk : ∀ b, lv b → ∀ g, blk (β b) = some g → g < w.heap.size := fun b hlb g hg => by
        obtain ⟨x, hx, hB⟩ := hW.box b hlb
        exact (hB.blk_base hg).2
      -- the boxes, behind the call
      have boxes : ∀ (β' : Nat → Value) (cr' fz' : Nat → Prop), (∀ b, cr b → cr' b ∧ β' b = β b) → (∀ b, (fz b ∨ b ∈ frz) → fz' b) → ∀ b, lv b → ∃ x, bx b = some x ∧ BoxR base Z' w' β' cr' fz' b x := fun β' cr' fz' hbb hff b hlb => by
        obtain ⟨x, hx, hB⟩ := hWf.box b hlb
        refine ⟨x, hx, hB.ext he hbb (hW.sub b hlb) (fun g hg => hb.block g (hblk b hlb g hg)) (fun g hg a0 ha e => ?_) (hff b)⟩
        by_cases hza : ZF Z β bx frz a0
        · exact .inl hza
        · have := hz3 a0 ha hza
          have := hblk b hlb g hg
          omega
      have hzb : ∀ a, Z' a → ¬ Z a → base ≤ a.block := fun a0 h1 h2 => by
        by_cases hza : ZF Z β bx frz a0
        · exact ZF_base hW frz hfrz a0 hza h2
        · exact Nat.le_trans hW.hbase (hz3 a0 h1 hza)
      have hbel : Below base w0 w' := hW.below.trans (hb.mono hW.hbase)
      cases r with
      | v x =>
        refine ⟨Z', β, he0, fun _ _ => rfl, hzb, ?_, AR.ext (Ext.refl _ _) (fun b h => h.elim) hret⟩
        refine ⟨hbel, Nat.le_trans hW.hbase hb.size, hz1, hz2, fun b hlb => ?_, fun b b' g h1 h2 hne => ?_, fun b hlb => ?_, hW.oth.trans (.of_below hb)⟩
        · rcases hlb with ⟨hlb, _⟩ | ⟨_, h⟩
          · exact boxes β _ _ (fun b h => ⟨.inl h, rfl⟩) (fun b h => h) b hlb
          · simp [retNw] at h
        · rcases h1 with ⟨h1, _⟩ | ⟨_, h⟩ <;> rcases h2 with ⟨h2, _⟩ | ⟨_, h⟩ <;> first | exact hW.dis b b' g h1 h2 hne | simp [retNw] at h
        · rcases hlb with ⟨hlb, _⟩ | ⟨_, h⟩
          · exact .inl (hW.sub b hlb)
          · simp [retNw] at h
      | own e sz rs =>
        obtain ⟨hnc, hnf, hbx⟩ := hnb _ rfl
        obtain ⟨inner, hown, hr, hc, hzz⟩ := hret
        let β' : Nat → Value := fun b => if b = nb then v else β b
        have hβ : ∀ b, cr b → β' b = β b := fun b hc => by
          have : b ≠ nb := fun e => hnc (e ▸ hc)
          simp [β', this]
        have hβn : β' nb = v := by simp [β']
        have hcr : ∀ b, cr b → (cr b ∨ (b = nb ∧ (some (Bx.rows e sz rs)).isSome = true)) ∧ β' b = β b := fun b hc => ⟨.inl hc, hβ b hc⟩
        have hvb : ∀ g, blk v = some g → w.heap.size ≤ g ∧ v.ownBlock = some g := fun g hg => by
          rcases hown.2 with ⟨rfl, _⟩ | ⟨g', cap, cur, rfl, hbs, _⟩
          · simp [blk] at hg
          · simp only [blk, Option.some.injEq] at hg
            subst hg
            exact ⟨hbs, rfl⟩
        refine ⟨Z', β', he0, hβ, hzb, ?_, by
          simp only
          rw [← hβn]
          exact .own nb (.inr ⟨rfl, rfl⟩)⟩
        refine ⟨hbel, Nat.le_trans hW.hbase hb.size, hz1, hz2, fun b hlb => ?_, fun b b' g h1 h2 hne e1 e2 => ?_, fun b hlb => ?_, hW.oth.trans (.of_below hb)⟩
        · rcases hlb with ⟨hlb, _⟩ | ⟨rfl, _⟩
          · exact boxes β' _ _ hcr (fun b h => h) b hlb
          · refine ⟨_, hbx, .rows e sz rs inner ?_ hr hc (fun g hg a0 ha e1 => ?_) (fun _ g hg a0 ha e1 => ?_)⟩
            · rw [hβn]
              refine ⟨hown.1, ?_⟩
              rcases hown.2 with h | ⟨g, cap, cur, h1, h2, h3⟩
              · exact .inl h
              · exact .inr ⟨g, cap, cur, h1, Nat.le_trans hW.hbase h2, h3⟩
            · rw [hβn] at hg
              exact absurd e1 (hzz g hg a0 ha)
            · rw [hβn] at hg
              exact hzz g hg a0 ha e1
        · rcases h1 with ⟨h1, _⟩ | ⟨rfl, _⟩ <;> rcases h2 with ⟨h2, _⟩ | ⟨rfl, _⟩
          · rw [hβ b (hW.sub b h1)] at e1
            rw [hβ b' (hW.sub b' h2)] at e2
            exact hW.dis b b' g h1 h2 hne e1 e2
          · rw [hβ b (hW.sub b h1)] at e1
            rw [hβn] at e2
            have := hblk b h1 g e1
            have := (hvb g e2).1
            omega
          · rw [hβ b' (hW.sub b' h2)] at e2
            rw [hβn] at e1
            have := hblk b' h2 g e2
            have := (hvb g e1).1
            omega
          · exact hne rfl
        · rcases hlb with ⟨hlb, _⟩ | h
          · exact .inl (hW.sub b hlb)
          · exact .inr h
      | mix pre e sz rs post =>
        obtain ⟨hnc, hnf, hbx⟩ := hnb _ rfl
        obtain ⟨vs, rfl, hvl, hpre, hpost, u, hu, inner, hown, hr, hc, hzz⟩ := hret
        let β' : Nat → Value := fun b => if b = nb then u else β b
        have hβ : ∀ b, cr b → β' b = β b := fun b hc => by
          have : b ≠ nb := fun e => hnc (e ▸ hc)
          simp [β', this]
        have hβn : β' nb = u := by simp [β']
        have hcr : ∀ b, cr b → (cr b ∨ (b = nb ∧ (some (Bx.rows e sz rs)).isSome = true)) ∧ β' b = β b := fun b hc => ⟨.inl hc, hβ b hc⟩
        have hvb : ∀ g, blk u = some g → w.heap.size ≤ g ∧ u.ownBlock = some g := fun g hg => by
          rcases hown.2 with ⟨rfl, _⟩ | ⟨g', cap, cur, rfl, hbs, _⟩
          · simp [blk] at hg
          · simp only [blk, Option.some.injEq] at hg
            subst hg
            exact ⟨hbs, rfl⟩
        refine ⟨Z', β', he0, hβ, hzb, ?_, by
          refine .tup _ vs (by simp [hvl]; omega) fun i x v h1 h2 => ?_
          by_cases hi : i < pre.length
          · rw [List.getElem?_append_left hi] at h1
            exact AR.ext (Ext.refl _ _) (fun b h => h.elim) (hpre i x v h1 h2)
          · rw [List.getElem?_append_right (by omega)] at h1
            by_cases hi2 : i = pre.length
            · subst hi2
              simp only [Nat.sub_self, List.getElem?_cons_zero, Option.some.injEq] at h1
              subst h1
              rw [hu] at h2
              injection h2 with h2
              subst h2
              rw [← hβn]
              exact .own nb (.inr ⟨rfl, rfl⟩)
            · have h3 : i - pre.length = (i - pre.length - 1) + 1 := by omega
              rw [h3, List.getElem?_cons_succ] at h1
              exact AR.ext (Ext.refl _ _) (fun b h => h.elim) (hpost (i - pre.length - 1) x v h1 (by rw [show pre.length + 1 + (i - pre.length - 1) = i by omega]; exact h2))⟩
        refine ⟨hbel, Nat.le_trans hW.hbase hb.size, hz1, hz2, fun b hlb => ?_, fun b b' g h1 h2 hne e1 e2 => ?_, fun b hlb => ?_, hW.oth.trans (.of_below hb)⟩
        · rcases hlb with ⟨hlb, _⟩ | ⟨rfl, _⟩
          · exact boxes β' _ _ hcr (fun b h => h) b hlb
          · refine ⟨_, hbx, .rows e sz rs inner ?_ hr hc (fun g hg a0 ha e1 => ?_) (fun _ g hg a0 ha e1 => ?_)⟩
            · rw [hβn]
              refine ⟨hown.1, ?_⟩
              rcases hown.2 with h | ⟨g, cap, cur, h1, h2, h3⟩
              · exact .inl h
              · exact .inr ⟨g, cap, cur, h1, Nat.le_trans hW.hbase h2, h3⟩
            · rw [hβn] at hg
              exact absurd e1 (hzz g hg a0 ha)
            · rw [hβn] at hg
              exact hzz g hg a0 ha e1
        · rcases h1 with ⟨h1, _⟩ | ⟨rfl, _⟩ <;> rcases h2 with ⟨h2, _⟩ | ⟨rfl, _⟩
          · rw [hβ b (hW.sub b h1)] at e1
            rw [hβ b' (hW.sub b' h2)] at e2
            exact hW.dis b b' g h1 h2 hne e1 e2
          · rw [hβ b (hW.sub b h1)] at e1
            rw [hβn] at e2
            have := hblk b h1 g e1
            have := (hvb g e2).1
            omega
          · rw [hβ b' (hW.sub b' h2)] at e2
            rw [hβn] at e1
            have := hblk b' h2 g e2
            have := (hvb g e1).1
            omega
          · exact hne rfl
        · rcases hlb with ⟨hlb, _⟩ | h
          · exact .inl (hW.sub b hlb)
          · exact .inr h

theorem op_call {fo : Operand} {as : Array Operand} {ats : Array TypeId} {ρ : Operand → AV} {g : FuncId} {caps : List (List C)} {r : Ret} (ho : o.op = .call { callee := .value fo, args := as, argTypes := ats })
    (hW : WR base w0 Z β cr lv fz bx w) (hfo : AR Z w β cr (.c (.fn g caps)) (a.eval fo)) (hA : ∀ x ∈ as, AR Z w β cr (ρ x) (a.eval x)) (hl : ∀ x ∈ as, ∀ b ∈ frzOf (ρ x), lv b)
    (hok : Ok P g ((as.toList.map fun x => thawF bx (ρ x)) ++ caps.map .pt) r) (hnb : ∀ y, retNw r = some y → ¬ cr nb ∧ ¬ fz nb ∧ bx nb = some y) :
    OpRun P o a w (Post base w0 Z β cr lv fz bx nb { res := retRes nb r, nw := retNw r, frz := as.toList.flatMap fun x => frzOf (ρ x) } w) :=
  by cases r <;> exact op_callW (fun _ => .inl rfl) ho hW hfo hA hl hok hnb

/-! ### 3. A function with what it captures -/
def capOf (bx : Nat → Option Bx) : AV → Option (List C × List Nat)
  | .ptr b 0 => match bx b with
    | some (.cells cs) => if cs.all isC then some (cs.map toC, [b]) else none
    | _ => none
  | .pt cs => some (cs, [])
  | _ => none
theorem capOf_sound {x : AV} {v : Value} {cs : List C} {f frz : List Nat} (hW : WR base w0 Z β cr lv fz bx w) (h : AR Z w β cr x v) (hc : capOf bx x = some (cs, f)) (hl : ∀ b ∈ f, lv b) (hf : ∀ b ∈ f, b ∈ frz) :
    ∃ ad, v = .pointer (some ad) ∧ AR (ZF Z β bx frz) w β cr (.pt cs) v := by
  cases h with
  | ptr b off g hb hg =>
    cases off with
    | succ k => simp [capOf] at hc
    | zero =>
      simp only [capOf] at hc
      split at hc
      · rename_i cs' hbx
        split at hc
        · rename_i hall
          simp only [Option.some.injEq, Prod.mk.injEq] at hc
          obtain ⟨rfl, rfl⟩ := hc
          exact ⟨_, rfl, AR.ofCells hW (hl b (by simp)) hbx (hf b (by simp)) hg hall⟩
        · simp at hc
      · simp at hc
  | pt cs' a vals hcc hv =>
    simp only [capOf, Option.some.injEq, Prod.mk.injEq] at hc
    obtain ⟨rfl, rfl⟩ := hc
    exact ⟨_, rfl, .pt _ _ vals (fun i hi => ⟨.inl (hcc i hi).1, (hcc i hi).2⟩) fun i c h1 => (hv i c h1).ext (ZF.ext _ _ _ _ _)⟩
  | any | und | c | agg | own | optr | osl | nil | tup | clo | yld => simp [capOf] at hc
def capsOf (bx : Nat → Option Bx) : List AV → Option (List (List C) × List Nat)
  | [] => some ([], [])
  | x :: l => match capOf bx x, capsOf bx l with
    | some (cs, f), some (css, fs) => some (cs :: css, f ++ fs)
    | _, _ => none
theorem capsOf_sound {frz : List Nat} (hW : WR base w0 Z β cr lv fz bx w) : ∀ (l : List AV) (vs : List Value) (css : List (List C)) (fs : List Nat), l.length = vs.length → (∀ (i : Nat) (x : AV) (v : Value), l[i]? = some x → vs[i]? = some v → AR Z w β cr x v) →
    capsOf bx l = some (css, fs) → (∀ b ∈ fs, lv b) → (∀ b ∈ fs, b ∈ frz) →
    ∃ ps : List Addr, vs = ps.map (fun a => Value.pointer (some a)) ∧ ps.length = css.length ∧ ∀ (k : Nat) (ad : Addr) (cs : List C), ps[k]? = some ad → css[k]? = some cs → AR (ZF Z β bx frz) w β cr (.pt cs) (.pointer (some ad))
  | [], [], css, fs, _, _, h, _, _ => by
    simp only [capsOf, Option.some.injEq, Prod.mk.injEq] at h
    obtain ⟨rfl, rfl⟩ := h
    exact ⟨[], rfl, rfl, by simp⟩
  | [], _ :: _, _, _, h, _, _, _, _ => by simp at h
  | _ :: _, [], _, _, h, _, _, _, _ => by simp at h
  | x :: l, v :: vs, css, fs, hlen, hA, h, hl, hf => by
    simp only [capsOf] at h
    cases h1 : capOf bx x with
    | none => rw [h1] at h; simp at h
    | some p =>
      obtain ⟨cs, f⟩ := p
      cases h2 : capsOf bx l with
      | none => rw [h1, h2] at h; simp at h
      | some q =>
        obtain ⟨css', fs'⟩ := q
        rw [h1, h2] at h
        simp only [Option.some.injEq, Prod.mk.injEq] at h
        obtain ⟨rfl, rfl⟩ := h
        obtain ⟨ad, rfl, hpt⟩ := capOf_sound hW (hA 0 x v rfl rfl) h1 (fun b hb => hl b (by simp [hb])) (fun b hb => hf b (by simp [hb]))
        obtain ⟨ps, rfl, hps, hrest⟩ := capsOf_sound hW l vs css' fs' (by simpa using hlen) (fun i x v e1 e2 => hA (i + 1) x v e1 e2) h2 (fun b hb => hl b (by simp [hb])) (fun b hb => hf b (by simp [hb]))
        refine ⟨ad :: ps, rfl, by simp [hps], fun k ad' cs' e1 e2 => ?_⟩
        match k with
        | 0 =>
          simp at e1 e2
          subst e1; subst e2
          exact hpt
        | k + 1 => exact hrest k ad' cs' e1 e2
theorem op_makeFunc {g : FuncId} {captured : Array Operand} {ρ : Operand → AV} {css : List (List C)} {fs : List Nat} (ho : o.op = .makeFunc (.func g) #[] captured) (hW : WR base w0 Z β cr lv fz bx w)
    (hA : ∀ x ∈ captured, AR Z w β cr (ρ x) (a.eval x)) (hc : capsOf bx (captured.toList.map ρ) = some (css, fs)) (hl : ∀ b ∈ fs, lv b) :
    OpRun P o a w (Post base w0 Z β cr lv fz bx nb { res := .c (.fn g css), frz := fs } w) := by
  obtain ⟨ps, hps, hpl, hpt⟩ := capsOf_sound (frz := fs) hW (captured.toList.map ρ) (captured.toList.map a.eval) css fs (by simp) (fun i x v h1 h2 => by
    rw [List.getElem?_map] at h1 h2
    cases hx : captured.toList[i]? with
    | none => rw [hx] at h1; simp at h1
    | some x0 =>
      rw [hx] at h1 h2
      simp only [Option.map_some, Option.some.injEq] at h1 h2
      subst h1; subst h2
      exact hA x0 (by simpa using List.mem_of_getElem? hx)) hc hl (fun b h => h)
  have harr : captured.map a.eval = (ps.map fun a => Value.pointer (some a)).toArray := by
    rw [← hps]
    apply Array.ext'
    simp
  refine .value (v := .func (.func g) #[] (ps.map fun a => Value.pointer (some a)).toArray) (w' := w) ?_ ⟨ZF Z β bx fs, β, ZF.ext _ _ _ _ _, fun _ _ => rfl, ZF_base hW fs hl, ?_, ?_⟩
  · simp [execOp, ho, Instr.makeFunc, harr]
  · exact (hW.freeze fs hl).mono (fun b h => .inl h) (fun b h => by
      rcases h with h | h
      · exact h.1
      · simp at h) (fun b h => h) (fun _ _ => rfl)
  · have hval : ∀ (k : Nat), ∃ vals : Nat → Value, ∀ (ad : Addr) (cs : List C), ps[k]? = some ad → css[k]? = some cs → (∀ i, i < cs.length → ZF Z β bx fs (ad.add i) ∧ w.cell? (ad.add i) = some (vals i)) ∧ ∀ (i : Nat) (c : C), cs[i]? = some c → CR (ZF Z β bx fs) w c (vals i) := fun k => by
      cases hp : ps[k]? with
      | none => exact ⟨fun _ => undef, fun ad cs h => by simp at h⟩
      | some ad =>
        cases hc : css[k]? with
        | none => exact ⟨fun _ => undef, fun ad cs _ h => by simp at h⟩
        | some cs =>
          have h := hpt k ad cs hp hc
          cases h with
          | pt _ _ vals h1 h2 =>
            refine ⟨vals, fun ad' cs' e1 e2 => ?_⟩
            simp only [Option.some.injEq] at e1 e2
            subst e1; subst e2
            exact ⟨h1, h2⟩
    refine .c _ _ (.fn g css ps (fun k => (hval k).choose) hpl (fun k ad cs h1 h2 i hi => ((hval k).choose_spec ad cs h1 h2).1 i hi) (fun k cs i c h1 h2 => ?_))
    have hk : k < ps.length := by rw [hpl]; exact (List.getElem?_eq_some_iff.1 h1).1
    exact ((hval k).choose_spec _ cs (List.getElem?_eq_getElem hk) h1).2 i c h2
end
end Go.Vam

/- An abstract machine over data (part 6x): calls that take a list of one's own and give it back changed; calls that only read. -/
namespace Go.Vam
open Go.RowKit
set_option linter.unusedVariables false
set_option linter.unusedSimpArgs false

/-- The list comes back with other rows, where it lay or in a new block. -/
def MutR (base : Nat) (w : World) (e sz : Nat) (v : Value) (n' : Nat) (inner' : List Value) (en : Ending) (w' : World) : Prop :=
  ∃ v', en = .returned v' ∧ w'.ownsRow base e sz v' n' inner' ∧ ((w.grownBy w' none ∧ v'.ownBlock = some w.heap.size) ∨ (v'.ownBlock = v.ownBlock ∧ w.grownBy w' v.ownBlock))
/-- slices.Insert of one thing into a list of one's own. -/
def InsOk (P : Program) (f : FuncId) (e sz bytes : Nat) : Prop :=
  Enters P f ∧ ∀ (base : Nat) (w : World) (v vv : Value) (n i : Nat) (inner xs : List Value), w.ownsRow base e sz v n inner → w.ownsRow base e sz vv 1 xs → (∀ g, v.ownBlock = some g → vv.ownBlock ≠ some g) → i ≤ n → (n + 1) * bytes ≤ 140737488355328 →
    (∀ u ∈ inner, u.oneCell' = true) → (∀ u ∈ xs, u.oneCell' = true) → base ≤ w.heap.size → Calls P f #[v, .int .i64 i, vv] w (MutR base w e sz v (n + 1) (inner.take (i * sz) ++ xs ++ inner.drop (i * sz)))
/-- slices.Delete of one thing of a list of one's own. -/
def DelOk (P : Program) (f : FuncId) (e sz : Nat) : Prop :=
  Enters P f ∧ ∀ (base : Nat) (w : World) (v : Value) (n i : Nat) (inner : List Value), w.ownsRow base e sz v n inner → i < n → (∀ u ∈ inner, u.oneCell' = true) → base ≤ w.heap.size →
    Calls P f #[v, .int .i64 i, .int .i64 ((i : Int) + 1)] w (MutR base w e sz v (n - 1) (inner.take (i * sz) ++ inner.drop ((i + 1) * sz)))

section
variable {P : Program} {tt : TT} {base : Nat} {w0 : World} {Z : Zone} {β : Nat → Value} {cr lv fz : Nat → Prop} {bx : Nat → Option Bx} {nb : Nat} {w : World} {a : Act} {o : Oper}
theorem post_mut {b e sz : Nat} {rs rs' : List (List C)} {inner' : List Value} {en : Ending} {w' : World} (hW : WR base w0 Z β cr lv fz bx w) (hlv : lv b) (hnf : ¬ fz b) (hb : bx b = some (.rows e sz rs)) (hnb : ¬ cr nb) (hbx : bx nb = some (.rows e sz rs'))
    (hm : MutR base w e sz (β b) rs'.length inner' en w') (hrl : ∀ (j : Nat) (row : List C), rs'[j]? = some row → row.length = sz)
    (hc : ∀ (j : Nat) (row : List C) (i : Nat) (c : C) (u : Value), rs'[j]? = some row → row[i]? = some c → inner'[j * sz + i]? = some u → CR Z w c u) :
    ∃ v', en = .returned v' ∧ Post base w0 Z β cr lv fz bx nb { res := .own nb, nw := some (.rows e sz rs'), kill := [b] } w v' w' := by
  obtain ⟨v', rfl, hown, hwhere⟩ := hm
  refine ⟨v', rfl, ?_⟩
  obtain ⟨xx, hxx, hB⟩ := hW.box b hlv
  rw [hb] at hxx
  injection hxx with hxx
  subst hxx
  have hBB := hB
  cases hB with
  | rows e sz rs inner hown0 hr0 hc0 ht0 hz0 =>
    have hgr : w.grownBy w' (β b).ownBlock := by
      rcases hwhere with ⟨hg, _⟩ | ⟨_, hg⟩
      · exact ⟨hg.os, hg.tape, hg.output, hg.size, fun k hk _ => hg.block k hk (by simp)⟩
      · exact hg
    have he : Ext Z Z w w' := ext_of_grown hgr hW.zin fun a ha e1 => hz0 hnf a.block e1.symm a ha rfl
    have hvb : ∀ g, v'.ownBlock = some g → (w.heap.size ≤ g) ∨ (β b).ownBlock = some g := fun g hg => by
      rcases hwhere with ⟨_, hv⟩ | ⟨hv, _⟩
      · rw [hv] at hg; injection hg with hg; exact .inl (by omega)
      · rw [hv] at hg; exact .inr hg
    have hb2 : ∀ g, blk v' = some g → v'.ownBlock = some g := fun g hg => by
      rcases hown.2 with ⟨rfl, _⟩ | ⟨g', cap', cur', rfl, _⟩
      · simp [blk] at hg
      · exact hg
    refine Post.renew (row := (β b).ownBlock) (u := v') hW hnb hbx hgr he (fun k hk => ?_) (fun g hg b' hl hnk e1 => ?_) (fun β' cr' fz' hb' hcn hun hfz => ?_) (fun β' cr' hb' hcn hun => by rw [← hun]; exact .own nb hcn)
    · have hbk := blk_ownBlock _ _ hk
      exact ⟨(hBB.blk_base hbk).1, hBB.isCells rfl hbk, fun b' hl hnk e1 => hW.dis b' b k hl hlv (fun e => hnk (by simp [e])) e1 hbk⟩
    · rcases hvb g (hb2 g hg) with h | h
      · obtain ⟨y, hy, hB'⟩ := hW.box b' hl
        have := (hB'.blk_base e1).2
        omega
      · exact hW.dis b' b g hl hlv (fun e => hnk (by simp [e])) e1 (blk_ownBlock _ _ h)
    · refine .rows e sz rs' inner' (by rw [hun]; exact hown) hrl (fun j row i c u h1 h2 h3 => (hc j row i c u h1 h2 h3).ext he) (fun g hg a ha e1 => ?_) (fun hn g hg a ha e1 => ?_)
      · rw [hun] at hg
        rcases hvb g hg with h | h
        · have := hW.zin a ha
          omega
        · exact absurd e1 (hz0 hnf g h a ha)
      · rw [hun] at hg
        rcases hvb g hg with h | h
        · have := hW.zin a ha
          omega
        · exact hz0 hnf g h a ha e1
theorem rows_one {b e sz : Nat} {rs : List (List C)} {inner : List Value} (hown : w.ownsRow base e sz (β b) rs.length inner) (hr : ∀ (j : Nat) (row : List C), rs[j]? = some row → row.length = sz)
    (hc : ∀ (j : Nat) (row : List C) (i : Nat) (c : C) (v : Value), rs[j]? = some row → row[i]? = some c → inner[j * sz + i]? = some v → CR Z w c v) : ∀ u ∈ inner, u.oneCell' = true := fun u hu => by
  obtain ⟨k, hk⟩ := List.mem_iff_getElem?.1 hu
  have hkl : k < rs.length * sz := by rw [← hown.1]; exact (List.getElem?_eq_some_iff.1 hk).1
  have hn0 : 0 < sz := by rcases Nat.eq_zero_or_pos sz with h | h; (rw [h] at hkl; omega); exact h
  have d1 : k / sz < rs.length := by rw [Nat.div_lt_iff_lt_mul hn0]; exact hkl
  have hrow := List.getElem?_eq_getElem d1
  have hl := hr _ _ hrow
  have d2 : k % sz < (rs[k / sz]).length := by rw [hl]; exact Nat.mod_lt _ hn0
  refine (hc _ _ (k % sz) _ u hrow (List.getElem?_eq_getElem d2) ?_).one
  rw [show k / sz * sz + k % sz = k by rw [Nat.mul_comm]; exact Nat.div_add_mod k sz]
  exact hk
theorem mul_lt {j n sz i : Nat} (hj : j < n) (hi : i < sz) : j * sz + i < n * sz := by
  have : j * sz + sz ≤ n * sz := by rw [← Nat.succ_mul]; exact Nat.mul_le_mul_right _ hj
  omega
/-- A call of a function's name. -/
theorem run_enter {fo : Operand} {as : Array Operand} {ats : Array TypeId} {g : FuncId} (ho : o.op = .call { callee := .value fo, args := as, argTypes := ats }) (hfo : AR Z w β cr (.c (.fn g [])) (a.eval fo)) (hent : Enters P g) :
    (execOp a.eval o).run P w = .ok (.enter g (as.map a.eval)) w := by
  have hfn : CR Z w (.fn g []) (a.eval fo) := by generalize hq : a.eval fo = q at hfo; cases hfo with | c x v h => exact h
  generalize hq : a.eval fo = q at hfn
  cases hfn with
  | fn g caps ps vals hpl hpc hpv =>
    have hps : ps = [] := List.eq_nil_of_length_eq_zero hpl
    subst hps
    have h2 := hent (as.map a.eval) w
    simp only [execOp, ho, resolve, hq, Deferred.ofValue, invoke, Sem.run_bind, Sem.run_pure, Result.andThen_ok, Array.empty_append, List.map_nil, Array.append_empty, h2]
theorem AR.own_val {b : Nat} {v : Value} (h : AR Z w β cr (.own b) v) : v = β b := by cases h; rfl

theorem op_ins {fo x y z : Operand} {ats : Array TypeId} {g e sz bytes b b2 i : Nat} {rs : List (List C)} {row2 : List C} (ho : o.op = .call { callee := .value fo, args := #[x, y, z], argTypes := ats }) (hI : InsOk P g e sz bytes)
    (hW : WR base w0 Z β cr lv fz bx w) (hfo : AR Z w β cr (.c (.fn g [])) (a.eval fo)) (hx : AR Z w β cr (.own b) (a.eval x)) (hy : AR Z w β cr (.c (.sc (.int .i64 i))) (a.eval y)) (hz : AR Z w β cr (.own b2) (a.eval z))
    (hlv : lv b) (hnf : ¬ fz b) (hb : bx b = some (.rows e sz rs)) (hlv2 : lv b2) (hb2 : bx b2 = some (.rows e sz [row2])) (hne : b ≠ b2) (hi : i ≤ rs.length) (hby : (rs.length + 1) * bytes ≤ 140737488355328)
    (hnb : ¬ cr nb) (hbx : bx nb = some (.rows e sz (rs.take i ++ [row2] ++ rs.drop i))) :
    OpRun P o a w (Post base w0 Z β cr lv fz bx nb { res := .own nb, nw := some (.rows e sz (rs.take i ++ [row2] ++ rs.drop i)), kill := [b] } w) := by
  obtain ⟨hent, hcalls⟩ := hI
  unfold OpRun
  rw [run_enter ho hfo hent]
  simp only [List.map_toArray, List.map_cons, List.map_nil]
  rw [hx.own_val, hz.own_val, hy.sc_inv.1]
  obtain ⟨xx, hxx, hB⟩ := hW.box b hlv
  rw [hb] at hxx
  injection hxx with hxx
  subst hxx
  obtain ⟨xx, hxx, hB2⟩ := hW.box b2 hlv2
  rw [hb2] at hxx
  injection hxx with hxx
  subst hxx
  cases hB with
  | rows e sz rs inner hown hr hc ht hzz =>
    cases hB2 with
    | rows e sz rs2 xs hown2 hr2 hc2 ht2 hz2 =>
      have h1 := rows_one hown hr hc
      have h2 := rows_one hown2 hr2 hc2
      have hsz : row2.length = sz := hr2 0 row2 rfl
      refine (hcalls base w (β b) (β b2) rs.length i inner xs hown hown2 (fun g h1 h2 => hW.dis b b2 g hlv hlv2 hne (blk_ownBlock _ _ h1) (blk_ownBlock _ _ h2)) hi hby h1 h2 hW.hbase).mono fun en w' hm => ?_
      have hlen : (rs.take i ++ [row2] ++ rs.drop i).length = rs.length + 1 := by simp; omega
      have hxl : xs.length = sz := by have := hown2.1; simpa using this
      have hil : (inner.take (i * sz)).length = i * sz := by
        rw [List.length_take, hown.1]
        have : i * sz ≤ rs.length * sz := Nat.mul_le_mul_right _ hi
        omega
      have hti : (rs.take i).length = i := by simp; omega
      refine post_mut hW hlv hnf hb hnb hbx (by rw [hlen]; exact hm) (fun j row hj => ?_) (fun j row k c u e1 e2 e3 => ?_)
      · rcases List.mem_append.1 (List.mem_of_getElem? hj) with h | h
        · rcases List.mem_append.1 h with h | h
          · obtain ⟨k, hk⟩ := List.mem_iff_getElem?.1 (List.mem_of_mem_take h)
            exact hr k row hk
          · rw [List.mem_singleton] at h
            rw [h]; exact hsz
        · obtain ⟨k, hk⟩ := List.mem_iff_getElem?.1 (List.mem_of_mem_drop h)
          exact hr k row hk
      · have hk : row.length = sz → k < sz := fun h => by rw [← h]; exact (List.getElem?_eq_some_iff.1 e2).1
        rw [List.append_assoc] at e1 e3
        by_cases hj : j < i
        · rw [List.getElem?_append_left (by omega), List.getElem?_take, if_pos hj] at e1
          have hks := hk (hr j row e1)
          have := mul_lt hj hks
          rw [List.getElem?_append_left (by omega), List.getElem?_take, if_pos this] at e3
          exact hc j row k c u e1 e2 e3
        · rw [List.getElem?_append_right (by omega), hti] at e1
          have hge : i * sz ≤ j * sz := Nat.mul_le_mul_right _ (by omega)
          rw [List.getElem?_append_right (by omega), hil, show j * sz + k - i * sz = (j - i) * sz + k by rw [Nat.sub_mul]; omega] at e3
          cases hji : j - i with
          | zero =>
            rw [hji] at e1 e3
            simp at e1
            subst e1
            have hks := hk hsz
            rw [Nat.zero_mul, Nat.zero_add, List.getElem?_append_left (by omega)] at e3
            exact hc2 0 _ k c u rfl e2 (by simpa using e3)
          | succ m =>
            rw [hji] at e1 e3
            simp only [List.singleton_append, List.getElem?_cons_succ, List.getElem?_drop] at e1
            rw [List.getElem?_append_right (by rw [hxl, Nat.succ_mul]; omega), List.getElem?_drop, hxl] at e3
            refine hc (i + m) row k c u e1 e2 ?_
            rw [← e3]
            congr 1
            rw [Nat.add_mul, Nat.succ_mul]
            omega
theorem op_del {fo x y z : Operand} {ats : Array TypeId} {g e sz b i : Nat} {rs : List (List C)} (ho : o.op = .call { callee := .value fo, args := #[x, y, z], argTypes := ats }) (hI : DelOk P g e sz)
    (hW : WR base w0 Z β cr lv fz bx w) (hfo : AR Z w β cr (.c (.fn g [])) (a.eval fo)) (hx : AR Z w β cr (.own b) (a.eval x)) (hy : AR Z w β cr (.c (.sc (.int .i64 i))) (a.eval y)) (hz : AR Z w β cr (.c (.sc (.int .i64 ((i : Int) + 1)))) (a.eval z))
    (hlv : lv b) (hnf : ¬ fz b) (hb : bx b = some (.rows e sz rs)) (hi : i < rs.length)
    (hnb : ¬ cr nb) (hbx : bx nb = some (.rows e sz (rs.take i ++ rs.drop (i + 1)))) :
    OpRun P o a w (Post base w0 Z β cr lv fz bx nb { res := .own nb, nw := some (.rows e sz (rs.take i ++ rs.drop (i + 1))), kill := [b] } w) := by
  obtain ⟨hent, hcalls⟩ := hI
  unfold OpRun
  rw [run_enter ho hfo hent]
  simp only [List.map_toArray, List.map_cons, List.map_nil]
  rw [hx.own_val, hy.sc_inv.1, hz.sc_inv.1]
  obtain ⟨xx, hxx, hB⟩ := hW.box b hlv
  rw [hb] at hxx
  injection hxx with hxx
  subst hxx
  cases hB with
  | rows e sz rs inner hown hr hc ht hzz =>
    have h1 := rows_one hown hr hc
    refine (hcalls base w (β b) rs.length i inner hown hi h1 hW.hbase).mono fun en w' hm => ?_
    have hlen : (rs.take i ++ rs.drop (i + 1)).length = rs.length - 1 := by simp; omega
    have hil : (inner.take (i * sz)).length = i * sz := by
      rw [List.length_take, hown.1]
      have : i * sz ≤ rs.length * sz := Nat.mul_le_mul_right _ (by omega)
      omega
    have hti : (rs.take i).length = i := by simp; omega
    refine post_mut hW hlv hnf hb hnb hbx (by rw [hlen]; exact hm) (fun j row hj => ?_) (fun j row k c u e1 e2 e3 => ?_)
    · rcases List.mem_append.1 (List.mem_of_getElem? hj) with h | h
      · obtain ⟨k, hk⟩ := List.mem_iff_getElem?.1 (List.mem_of_mem_take h)
        exact hr k row hk
      · obtain ⟨k, hk⟩ := List.mem_iff_getElem?.1 (List.mem_of_mem_drop h)
        exact hr k row hk
    · have hk : row.length = sz → k < sz := fun h => by rw [← h]; exact (List.getElem?_eq_some_iff.1 e2).1
      by_cases hj : j < i
      · rw [List.getElem?_append_left (by omega), List.getElem?_take, if_pos hj] at e1
        have hks := hk (hr j row e1)
        have := mul_lt hj hks
        rw [List.getElem?_append_left (by omega), List.getElem?_take, if_pos this] at e3
        exact hc j row k c u e1 e2 e3
      · rw [List.getElem?_append_right (by omega), hti, List.getElem?_drop] at e1
        have hge : i * sz ≤ j * sz := Nat.mul_le_mul_right _ (by omega)
        rw [List.getElem?_append_right (by omega), hil, List.getElem?_drop] at e3
        refine hc _ row k c u e1 e2 ?_
        rw [← e3]
        congr 1
        rw [Nat.add_mul, Nat.sub_mul, Nat.add_mul]
        omega
end


section
variable {P : Program} {tt : TT} {base : Nat} {w0 : World} {Z : Zone} {β : Nat → Value} {cr lv fz : Nat → Prop} {bx : Nat → Option Bx} {nb : Nat} {w : World} {a : Act} {o : Oper}
theorem mapThree {f : Operand → AV} {as : Array Operand} {p q r : AV} (h : as.toList.map f = [p, q, r]) : ∃ x y z, as = #[x, y, z] ∧ f x = p ∧ f y = q ∧ f z = r := by
  obtain ⟨l⟩ := as
  match l, h with
  | [x, y, z], h =>
    simp only [List.map_cons, List.map_nil, List.cons.injEq, and_true] at h
    exact ⟨x, y, z, rfl, h.1, h.2.1, h.2.2⟩
/-- A call that tells a number, a word or a yes: what it was handed is as it was. -/
theorem op_rd {fo : Operand} {as : Array Operand} {ats : Array TypeId} {ρ : Operand → AV} {g : FuncId} {caps : List (List C)} {u : Value} (ho : o.op = .call { callee := .value fo, args := as, argTypes := ats }) (hu : isSc u = true)
    (hW : WR base w0 Z β cr lv fz bx w) (hfo : AR Z w β cr (.c (.fn g caps)) (a.eval fo)) (hA : ∀ x ∈ as, AR Z w β cr (ρ x) (a.eval x)) (hl : ∀ x ∈ as, ∀ b ∈ frzOf (ρ x), lv b)
    (hok : Ok P g ((as.toList.map fun x => thawF bx (ρ x)) ++ caps.map .pt) (.v (.c (.sc u)))) :
    OpRun P o a w (Post base w0 Z β cr lv fz bx nb { res := .c (.sc u) } w) := by
  obtain ⟨hent, hcalls⟩ := hok
  have hfrz : ∀ b ∈ as.toList.flatMap (fun x => frzOf (ρ x)), lv b := fun b hb => by
    obtain ⟨x, hx, hb⟩ := List.mem_flatMap.1 hb
    exact hl x (by simpa using hx) b hb
  generalize hfr : as.toList.flatMap (fun x => frzOf (ρ x)) = frz at *
  have hWf := hW.freeze frz hfrz
  have hfn : CR Z w (.fn g caps) (a.eval fo) := by generalize hq : a.eval fo = q at hfo; cases hfo with | c x v h => exact h
  generalize hq : a.eval fo = q at hfn
  cases hfn with
  | fn g caps ps vals hpl hpc hpv =>
    have hrun : (execOp a.eval o).run P w = .ok (.enter g (as.map a.eval ++ (ps.map fun a => Value.pointer (some a)).toArray)) w := by
      have h2 : (callFunc g (as.map a.eval ++ (ps.map fun a => Value.pointer (some a)).toArray)).run P w = .ok (.enter g (as.map a.eval ++ (ps.map fun a => Value.pointer (some a)).toArray)) w := hent _ w
      simp only [execOp, ho, resolve, hq, Deferred.ofValue, invoke, Sem.run_bind, Sem.run_pure, Result.andThen_ok, Array.empty_append, h2]
    unfold OpRun
    rw [hrun]
    refine (hcalls (ZF Z β bx frz) w _ hWf.zin hWf.zsp (by simp [hpl]) (fun i x v h1 h2 => ?_)).mono ?_
    · by_cases hi : i < as.size
      · rw [List.getElem?_append_left (by simpa using hi), List.getElem?_map] at h1
        rw [Array.getElem?_append_left (by simpa using hi), Array.getElem?_map] at h2
        have hx : as[i]? = some as[i] := Array.getElem?_eq_getElem hi
        rw [Array.getElem?_toList, hx] at h1
        rw [hx] at h2
        simp only [Option.map_some, Option.some.injEq] at h1 h2
        subst h1; subst h2
        have hmem : as[i] ∈ as := Array.getElem_mem hi
        exact thaw_AR hW (hA _ hmem) (hl _ hmem) (fun b hb => by rw [← hfr]; exact List.mem_flatMap.2 ⟨as[i], by simp, hb⟩)
      · rw [List.getElem?_append_right (by simpa using hi), List.getElem?_map] at h1
        rw [Array.getElem?_append_right (by simpa using hi)] at h2
        simp only [List.length_map, Array.length_toList, Array.size_map, List.getElem?_toArray, List.getElem?_map] at h1 h2
        cases hc : caps[i - as.size]? with
        | none => rw [hc] at h1; simp at h1
        | some cs =>
          cases hp : ps[i - as.size]? with
          | none => rw [hp] at h2; simp at h2
          | some ad =>
            rw [hc] at h1
            rw [hp] at h2
            simp only [Option.map_some, Option.some.injEq] at h1 h2
            subst h1; subst h2
            exact .pt cs ad (vals (i - as.size)) (fun k hk => by
              obtain ⟨z1, z2⟩ := hpc _ ad cs hp hc k hk
              exact ⟨.inl z1, z2⟩) (fun k c hk => (hpv _ cs k c hc hk).ext (ZF.ext _ _ _ _ _))
    · rintro e w' ⟨v, Z', rfl, he, hb, hz1, hz2, hz3, hret⟩
      refine ⟨v, rfl, ?_⟩
      simp only [RetR] at hret
      have hv : v = u := hret.sc_inv.1
      subst hv
      exact Post.quiet hW hb (.c _ _ (.sc _ hu))
end
end Go.Vam

/- An abstract machine over data (part 7): one operation, whichever it is. -/
namespace Go.Vam
open Go.RowKit
set_option linter.unusedVariables false
set_option linter.unusedSimpArgs false

def CallK (P : Program) (g : FuncId) (args : List AV) (K : Ret → Prop) : Prop := ∃ r, Ok P g args r ∧ K r
theorem CallK.mk {P : Program} {g : FuncId} {args : List AV} {K : Ret → Prop} {r : Ret} (h : Ok P g args r) (hk : K r) : CallK P g args K := ⟨r, h, hk⟩

/-- Calls that are no plain ones: slices.Insert, slices.Delete upon a list of one's own; calls that only read. -/
def CallX (P : Program) (bx : Nat → Option Bx) (dead fz : List Nat) (g : FuncId) (caps : List (List C)) (raw : List AV) (nb : Nat) (K : Eff → Prop) : Prop :=
  (∃ e sz bytes b b2 i rs row2, caps = [] ∧ raw = [.own b, .c (.sc (.int .i64 (i : Nat))), .own b2] ∧ InsOk P g e sz bytes ∧ (b ∉ dead ∧ b ∉ fz ∧ b2 ∉ dead ∧ b ≠ b2) ∧ bx b = some (.rows e sz rs) ∧ bx b2 = some (.rows e sz [row2]) ∧
    i ≤ rs.length ∧ (rs.length + 1) * bytes ≤ 140737488355328 ∧ K { res := .own nb, nw := some (.rows e sz (rs.take i ++ [row2] ++ rs.drop i)), kill := [b] }) ∨
  (∃ e sz b i rs, caps = [] ∧ raw = [.own b, .c (.sc (.int .i64 (i : Nat))), .c (.sc (.int .i64 ((i : Nat) + 1)))] ∧ DelOk P g e sz ∧ (b ∉ dead ∧ b ∉ fz) ∧ bx b = some (.rows e sz rs) ∧ i < rs.length ∧
    K { res := .own nb, nw := some (.rows e sz (rs.take i ++ rs.drop (i + 1))), kill := [b] }) ∨
  ((∀ b ∈ raw.flatMap frzOf, b ∉ dead) ∧ ∃ u, isSc u = true ∧ Ok P g (raw.map (thawF bx) ++ caps.map .pt) (.v (.c (.sc u))) ∧ K { res := .c (.sc u) })
def binV (op : BinOp) : AV → AV → Option Value
  | .c (.sc (.int k p)), .c (.sc (.int k' q)) => if k = k' then binI op k p q else none
  | .c (.sc (.string p)), .c (.sc (.string q)) => binS op p q
  | _, _ => none
def binB (op : BinOp) : AV → AV → Option Bool
  | .c (.sc (.bool p)), .c (.sc (.bool q)) => match op with
    | .eql => some (p == q)
    | .neq => some !(p == q)
    | _ => none
  | _, _ => none
def rowLen (n : Nat) (rows : List (List C)) : Prop := ∀ row ∈ rows, row.length = n
def numOf : AV → Option Int
  | .c (.sc (.int _ n)) => some n
  | _ => none
def boundK (ρ : Operand → AV) (d : Int) : Option Operand → (Int → Prop) → Prop
  | none, K => K d
  | some y, K => ∃ n, numOf (ρ y) = some n ∧ K n
def dstK (bx : Nat → Option Bx) (dead : List Nat) (e sz : Nat) : AV → (List (List C) → List Nat → Prop) → Prop
  | .nil, K => K [] []
  | .own b, K => b ∉ dead ∧ match bx b with
    | some (.rows e' sz' rs) => e' = e ∧ sz' = sz ∧ K rs [b]
    | _ => False
  | _, _ => False
def srcK (bx : Nat → Option Bx) (dead : List Nat) (sz : Nat) : AV → (List (List C) → Prop) → Prop
  | .nil, K => K []
  | .c (.sl xs), K => rowLen sz xs ∧ K xs
  | .own b, K => b ∉ dead ∧ match bx b with
    | some (.rows _ sz' xs) => sz' = sz ∧ rowLen sz xs ∧ K xs
    | _ => False
  | _, _ => False

/-- Things of two numbers each, compared. -/
def EqT (P : Program) (t : TypeId) : Prop := ∀ (w : World) (p1 p2 q1 q2 : Int),
  (Op.equalIn 10000 t (.agg #[.int .i64 p1, .int .i64 p2]) (.agg #[.int .i64 q1, .int .i64 q2])).run P w = .ok (p1 == q1 && p2 == q2) w ∧
  ∀ op x y, (eqGuard op t x y (.agg #[.int .i64 p1, .int .i64 p2]) (.agg #[.int .i64 q1, .int .i64 q2])).run P w = .ok () w
def eqI (op : BinOp) (x y : AV) : Option Bool :=
  match x, y with
  | .agg [.sc (.int .i64 p1), .sc (.int .i64 p2)], .agg [.sc (.int .i64 q1), .sc (.int .i64 q2)] => match op with
    | .eql => some (p1 == q1 && p2 == q2)
    | .neq => some (!(p1 == q1 && p2 == q2))
    | _ => none
  | _, _ => none
theorem AR.two {Z : Zone} {w : World} {β : Nat → Value} {cr : Nat → Prop} {p q : Int} {v : Value} (h : AR Z w β cr (.agg [.sc (.int .i64 p), .sc (.int .i64 q)]) v) : v = .agg #[.int .i64 p, .int .i64 q] := by
  cases h with
  | agg _ vs hl h =>
    obtain ⟨l⟩ := vs
    simp only [List.size_toArray, List.length_cons, List.length_nil] at hl
    match l, hl with
    | [a, b], _ =>
      have h1 := h 0 (.sc (.int .i64 p)) a rfl rfl
      have h2 := h 1 (.sc (.int .i64 q)) b rfl rfl
      cases h1
      cases h2
      rfl
theorem op_eqI {P : Program} {o : Oper} {a : Act} {base : Nat} {w0 : World} {Z : Zone} {β : Nat → Value} {cr lv fz : Nat → Prop} {bx : Nat → Option Bx} {nb : Nat} {w : World} {op : BinOp} {t u : TypeId} {x y : Operand} {r s : AV} {b : Bool} (ho : o.op = .binOp op t x y u) (hT : EqT P t) (hW : WR base w0 Z β cr lv fz bx w)
    (hx : AR Z w β cr r (a.eval x)) (hy : AR Z w β cr s (a.eval y)) (he : eqI op r s = some b) : OpRun P o a w (Post base w0 Z β cr lv fz bx nb { res := .c (.sc (.bool b)) } w) := by
  unfold eqI at he
  split at he
  · rename_i p1 p2 q1 q2
    obtain ⟨h1, h2⟩ := hT w p1 p2 q1 q2
    have e1 := hx.two
    have e2 := hy.two
    split at he
    · simp only [Option.some.injEq] at he
      subst he
      refine op_quiet (v := .bool (p1 == q1 && p2 == q2)) hW ?_ (.c _ _ (.sc _ rfl))
      simp only [execOp, ho, e1, e2, Sem.run_bind, h2, Result.andThen_ok, run_eql_struct, h1, Sem.run_pure]
    · simp only [Option.some.injEq] at he
      subst he
      refine op_quiet (v := .bool (!(p1 == q1 && p2 == q2))) hW ?_ (.c _ _ (.sc _ rfl))
      simp only [execOp, ho, e1, e2, Sem.run_bind, h2, Result.andThen_ok, run_neq_struct, h1, Sem.run_pure]
    · simp at he
  · simp at he

/-- What an operation does: what must be so, and what is told to K. -/
def Locl (P : Program) (tt : TT) (o : Oper) (ρ : Operand → AV) (bx : Nat → Option Bx) (dead fz : List Nat) (nb : Nat) (K : Eff → Prop) : Prop :=
  match o.op with
  | .move x => K { res := ρ x }
  | .assign x => K { res := ρ x }
  | .pick c x y => match ρ c with
    | .c (.sc (.bool t)) => K { res := if t then ρ x else ρ y }
    | _ => False
  | .binOp op t x y _ =>
    match binV op (ρ x) (ρ y) with
    | some v => K { res := .c (.sc v) }
    | none => match binB op (ρ x) (ρ y) with
      | some b => (∃ i, tt t = some i ∧ i.bl = true) ∧ K { res := .c (.sc (.bool b)) }
      | none => match eqI op (ρ x) (ρ y) with
        | some b => EqT P t ∧ K { res := .c (.sc (.bool b)) }
        | none => False
  | .unOp .not _ x => match ρ x with
    | .c (.sc (.bool p)) => K { res := .c (.sc (.bool (!p))) }
    | _ => False
  | .unOp .neg _ x => match ρ x with
    | .c (.sc (.int k p)) => K { res := .c (.sc (.int k (k.wrap (-p)))) }
    | _ => False
  | .extract x i => match ρ x with
    | .tup xs => ∃ r, xs[i]? = some r ∧ K { res := r }
    | _ => False
  | .field t x f => match ρ x with
    | .agg cs => ∃ i off ty n ag, tt t = some i ∧ i.fs[f]? = some (off, ty, n, ag) ∧ off + n ≤ cs.length ∧ (ag = false → n = 1) ∧ K { res := if ag then .agg ((cs.drop off).take n) else .c (cs.getD off (.sc (.bool false))) }
    | _ => False
  | .fieldAddr t x f => ∃ i off ty n ag, tt t = some i ∧ i.fs[f]? = some (off, ty, n, ag) ∧ match ρ x with
    | .pt cs => K { res := .pt (cs.drop off) }
    | .ptr b o => K { res := .ptr b (o + off) }
    | .optr b o => K { res := .optr b (o + off) }
    | _ => False
  | .indexAddr t x y => (∃ i e sz n ag j b o0, tt t = some i ∧ i.ar = some (e, sz, n, ag) ∧ numOf (ρ y) = some j ∧ 0 ≤ j ∧ j < (n : Nat) ∧ ρ x = .ptr b o0 ∧ K { res := .ptr b (o0 + j.toNat * sz) }) ∨
   (∃ i e ie j, tt t = some i ∧ i.sl = some e ∧ tt e = some ie ∧ numOf (ρ y) = some j ∧ 0 ≤ j ∧ match ρ x with
    | .c (.sl rows) => ∃ row, rows[j.toNat]? = some row ∧ row.length = ie.n ∧ K { res := .pt row }
    | .own b => b ∉ dead ∧ match bx b with
      | some (.rows _ sz rs) => sz = ie.n ∧ j < rs.length ∧ K { res := .optr b (j.toNat * ie.n) }
      | _ => False
    | _ => False)
  | .index t x y => match ρ x with
    | .c (.sc (.string s)) => ∃ i j, tt t = some i ∧ i.str = true ∧ numOf (ρ y) = some j ∧ 0 ≤ j ∧ j < s.size ∧ K { res := .c (.sc (.int .u8 (byteAt s j.toNat))) }
    | .agg cs => ∃ i e sz n ag j, tt t = some i ∧ i.ar = some (e, sz, n, ag) ∧ numOf (ρ y) = some j ∧ 0 ≤ j ∧ j < (n : Nat) ∧ j.toNat * sz + sz ≤ cs.length ∧ (ag = false → sz = 1) ∧
      K { res := if ag then .agg ((cs.drop (j.toNat * sz)).take sz) else .c (cs.getD (j.toNat * sz) (.sc (.bool false))) }
    | _ => False
  | .load t x => ∃ i, tt t = some i ∧ (i.ag = false → i.n = 1) ∧ 0 < i.n ∧ match ρ x with
    | .pt cs => i.n ≤ cs.length ∧ K { res := if i.ag then .agg (cs.take i.n) else .c (cs.getD 0 (.sc (.bool false))) }
    | .ptr b off => b ∉ dead ∧ match bx b with
      | some (.cells cs) => off + i.n ≤ cs.length ∧ (i.ag = true → ((cs.drop off).take i.n).all isC = true) ∧ K { res := if i.ag then .agg (((cs.drop off).take i.n).map toC) else nth cs off }
      | _ => False
    | .optr b off => b ∉ dead ∧ match bx b with
      | some (.rows _ sz rs) => ∃ j row, rs[j]? = some row ∧ j * sz ≤ off ∧ off - j * sz + i.n ≤ row.length ∧ K { res := if i.ag then .agg ((row.drop (off - j * sz)).take i.n) else .c (row.getD (off - j * sz) (.sc (.bool false))) }
      | _ => False
    | _ => False
  | .slice t x lo hi mx => ∃ i e ie, tt t = some i ∧ i.sl = some e ∧ tt e = some ie ∧ match ρ x with
    | .c (.sl rows) => rowLen ie.n rows ∧ boundK ρ 0 lo fun l => boundK ρ rows.length hi fun h => 0 ≤ l ∧ l ≤ h ∧ h ≤ rows.length ∧ (mx.isSome = true → hi.isSome = true) ∧ (boundK ρ h mx fun m => h ≤ m ∧ m ≤ rows.length) ∧
        K { res := .c (.sl ((rows.take h.toNat).drop l.toNat)) }
    | .own b => b ∉ dead ∧ b ∉ fz ∧ lo = none ∧ mx = none ∧ match bx b, hi with
      | some (.rows e' sz rs), some y => e' = e ∧ sz = ie.n ∧ ∃ h, numOf (ρ y) = some h ∧ 0 ≤ h ∧ h ≤ rs.length ∧ K { res := .own nb, nw := some (.rows e sz (rs.take h.toNat)), kill := [b] }
      | _, _ => False
    | _ => False
  | .nilCheck x => match ρ x with
    | .pt cs => K { res := .pt cs }
    | .ptr b off => K { res := .ptr b off }
    | _ => False
  | .alloc t => ∃ i, tt t = some i ∧ i.zero ≠ [] ∧ K { res := .ptr nb 0, nw := some (.cells i.zero) }
  | .box _ x => ∃ cs, stOf bx dead (ρ x) = some cs ∧ K { res := .ptr nb 0, nw := some (.cells cs) }
  | .build t parts => (∃ i e sz n ag f r, tt t = some i ∧ i.zero ≠ [] ∧ i.ar = some (e, sz, n, ag) ∧ fillC (placeA sz) (parts.toList.map fun p => (p.1, ρ p.2)) (zeroO i.zero) = some f ∧ allC f = some r ∧ K { res := .agg r }) ∨ (∃ i f r, tt t = some i ∧ i.zero ≠ [] ∧ i.fs ≠ [] ∧ fillC (placeOf i.fs) (parts.toList.map fun p => (p.1, ρ p.2)) (zeroO i.zero) = some f ∧ allC f = some r ∧ K { res := .agg r })
  | .buildSlice t n parts => ∃ i e ie rs, tt t = some i ∧ i.sl = some e ∧ tt e = some ie ∧ ie.zero ≠ [] ∧ 0 < ie.n ∧ rowsOf ie.n 0 (parts.toList.map fun p => (p.1, ρ p.2)) = some rs ∧ rs.length = n ∧ n * ie.n ≤ 16777216 ∧
      K { res := .own nb, nw := some (.rows e ie.n rs) }
  | .makeFunc (.func g) first captured => first = #[] ∧ ∃ css fs, capsOf bx (captured.toList.map ρ) = some (css, fs) ∧ (∀ b ∈ fs, b ∉ dead) ∧ K { res := .c (.fn g css), frz := fs }
  | .call { callee := .builtin .len, args := as, argTypes := ts } => ∃ x t i, as = #[x] ∧ ts = #[t] ∧ tt t = some i ∧ match ρ x with
    | .c (.sl rows) => i.sl.isSome = true ∧ K { res := .c (.sc (.int .i64 rows.length)) }
    | .nil => i.sl.isSome = true ∧ K { res := .c (.sc (.int .i64 0)) }
    | .own b => i.sl.isSome = true ∧ b ∉ dead ∧ match bx b with
      | some (.rows _ _ rs) => K { res := .c (.sc (.int .i64 rs.length)) }
      | _ => False
    | .c (.sc (.string s)) => i.str = true ∧ K { res := .c (.sc (.int .i64 s.size)) }
    | _ => False
  | .call { callee := .builtin .append, args := as, argTypes := ts } => ∃ x y t t' it it' e e' ie, as = #[x, y] ∧ ts = #[t, t'] ∧ tt t = some it ∧ it.sl = some e ∧ tt t' = some it' ∧ it'.sl = some e' ∧ tt e = some ie ∧ ie.zero ≠ [] ∧ 0 < ie.bytes ∧ 0 < ie.n ∧
      dstK bx dead e ie.n (ρ x) fun rs kill => srcK bx dead ie.n (ρ y) fun xs => (rs.length + xs.length) * ie.bytes ≤ 140737488355328 ∧
        K { res := .own nb, nw := some (.rows e ie.n (rs ++ xs)), kill, frz := if (kill.any fun b => fz.contains b) then [nb] else [] }
  | .call { callee := .value fo, args := as, argTypes := _ } => match ρ fo with
    | .c (.fn g caps) => ((∀ b ∈ as.toList.flatMap (fun x => frzOf (ρ x)), b ∉ dead) ∧ CallK P g ((as.toList.map fun x => thawF bx (ρ x)) ++ caps.map .pt) fun r => match r with
      | .v x => K { res := x, frz := as.toList.flatMap fun x => frzOf (ρ x) }
      | .own e sz rs => K { res := .own nb, nw := some (.rows e sz rs), frz := as.toList.flatMap fun x => frzOf (ρ x) }
      | .mix pre e sz rs post => K { res := .tup (pre ++ .own nb :: post), nw := some (.rows e sz rs), frz := as.toList.flatMap fun x => frzOf (ρ x) }) ∨
      CallX P bx dead fz g caps (as.toList.map ρ) nb K
    | _ => False
  | _ => False

/-- Names of boxes, one set anew. -/
def upd (bx : Nat → Option Bx) (nb : Nat) (x : Option Bx) : Nat → Option Bx := fun b => if b = nb then x else bx b
/-- Operations that look into a box; those that must know that it has not been laid aside. -/
def needU : Op → Bool
  | .indexAddr _ _ _ => true
  | .load _ _ => true
  | .box _ _ => true
  | .slice _ _ _ _ _ => true
  | .makeFunc _ _ _ => true
  | .call _ => true
  | _ => false
def needF : Op → Bool
  | .slice _ _ _ _ _ => true
  | .call { callee := .builtin .append, args := _, argTypes := _ } => true
  | .call { callee := .value _, args := _, argTypes := _ } => true
  | _ => false
def usesOf : AV → List Nat
  | .own b => [b]
  | .ptr b _ => [b]
  | .optr b _ => [b]
  | .osl b _ _ => [b]
  | _ => []

section
variable {P : Program} {tt : TT} {base : Nat} {w0 : World} {Z : Zone} {β : Nat → Value} {cr lv fz : Nat → Prop} {bx : Nat → Option Bx} {nb : Nat} {w : World} {a : Act} {o : Oper} {ρ : Operand → AV} {deadl fzl : List Nat}

theorem AR.num {x : AV} {n : Int} {v : Value} (h : AR Z w β cr x v) (hn : numOf x = some n) : ∃ k, v = .int k n ∧ x = .c (.sc (.int k n)) := by
  unfold numOf at hn
  split at hn
  · simp only [Option.some.injEq] at hn
    subst hn
    exact ⟨_, h.sc_inv.1, rfl⟩
  · simp at hn
theorem numOf_eq {x : AV} {n : Int} (hn : numOf x = some n) : ∃ k, x = .c (.sc (.int k n)) := by
  unfold numOf at hn
  split at hn
  · simp only [Option.some.injEq] at hn
    subst hn
    exact ⟨_, rfl⟩
  · simp at hn

set_option maxHeartbeats 1000000 in
theorem loc_sound (hT : TOk P tt) {e : Eff} {bxR : Nat → Option Bx} (h : Locl P tt o ρ bxR deadl fzl nb (fun e' => e' = e)) (hW : WR base w0 Z β cr lv fz bx w) (hA : ∀ x ∈ o.op.operands, AR Z w β cr (ρ x) (a.eval x))
    (hbn : ∀ y, e.nw = some y → ¬ cr nb ∧ ¬ fz nb ∧ bx nb = some y)
    (hus : needU o.op = true → ∀ x ∈ o.op.operands, ∀ b ∈ usesOf (ρ x), cr b → bx b = bxR b ∧ (b ∉ deadl → lv b) ∧ (needF o.op = true → fz b → b ∈ fzl)) :
    (∀ b ∈ e.frz, cr b ∨ (b = nb ∧ e.nw.isSome = true)) ∧ (∀ b ∈ e.kill, cr b) ∧ OpRun P o a w (Post base w0 Z β cr lv fz bx nb e w) := by
  have crown : ∀ {b : Nat} {v : Value}, AR Z w β cr (.own b) v → cr b := fun h => by cases h; assumption
  have crptr : ∀ {b off : Nat} {v : Value}, AR Z w β cr (.ptr b off) v → cr b := fun h => by cases h; assumption
  have croptr : ∀ {b off : Nat} {v : Value}, AR Z w β cr (.optr b off) v → cr b := fun h => by cases h; assumption
  unfold Locl at h
  cases hop : o.op with
  | move x =>
    rw [hop] at h hA
    subst h; exact ⟨by simp, by simp, op_move (.inl hop) hW (hA x (by simp [Op.operands]))⟩
  | assign x =>
    rw [hop] at h hA
    subst h; exact ⟨by simp, by simp, op_move (.inr hop) hW (hA x (by simp [Op.operands]))⟩
  | pick c x y =>
    rw [hop] at h hA
    have hc := hA c (by simp [Op.operands])
    have hx := hA x (by simp [Op.operands])
    have hy := hA y (by simp [Op.operands])
    simp only at h
    split at h
    · rename_i t hρ
      rw [hρ] at hc
      subst h; exact ⟨by simp, by simp, op_pick hop hW hc hx hy⟩
    · exact h.elim
  | binOp op t x y u =>
    rw [hop] at h hA
    have hx := hA x (by simp [Op.operands])
    have hy := hA y (by simp [Op.operands])
    simp only at h
    split at h
    · rename_i v hv
      unfold binV at hv
      split at hv
      · rename_i k p k' q e1 e2
        split at hv
        · rename_i hk
          subst hk
          rw [e1] at hx
          rw [e2] at hy
          subst h; exact ⟨by simp, by simp, op_bin hop hW hx hy hv⟩
        · simp at hv
      · rename_i p q e1 e2
        rw [e1] at hx
        rw [e2] at hy
        subst h; exact ⟨by simp, by simp, op_binS hop hW hx hy hv⟩
      · simp at hv
    · split at h
      · rename_i b hb
        obtain ⟨⟨i, hi, hbl⟩, hK⟩ := h
        have hu := tyOk_bl (hT t i hi) hbl
        unfold binB at hb
        split at hb
        · rename_i p q e1 e2
          rw [e1] at hx
          rw [e2] at hy
          split at hb
          · simp only [Option.some.injEq] at hb
            subst hb
            subst hK; exact ⟨by simp, by simp, op_binB (neg := false) hop hu hW hx hy⟩
          · simp only [Option.some.injEq] at hb
            subst hb
            subst hK; exact ⟨by simp, by simp, op_binB (neg := true) hop hu hW hx hy⟩
          · simp at hb
        · simp at hb
      · split at h
        · rename_i b hb
          obtain ⟨hq, hK⟩ := h
          subst hK; exact ⟨by simp, by simp, op_eqI hop hq hW hx hy hb⟩
        · exact h.elim
  | unOp op t x =>
    rw [hop] at h hA
    have hx := hA x (by simp [Op.operands])
    cases op <;> simp only at h
    case not =>
      split at h
      · rename_i p e1
        rw [e1] at hx
        subst h; exact ⟨by simp, by simp, op_not hop hW hx⟩
      · exact h.elim
    case neg =>
      split at h
      · rename_i k p e1
        rw [e1] at hx
        subst h; exact ⟨by simp, by simp, op_neg hop hW hx⟩
      · exact h.elim
  | extract x i =>
    rw [hop] at h hA
    have hx := hA x (by simp [Op.operands])
    simp only at h
    split at h
    · rename_i xs e1
      rw [e1] at hx
      obtain ⟨r, hr, hK⟩ := h
      subst hK; exact ⟨by simp, by simp, op_extract hop hW hx hr⟩
    · exact h.elim
  | field t x f =>
    rw [hop] at h hA
    have hx := hA x (by simp [Op.operands])
    simp only at h
    split at h
    · rename_i cs e1
      rw [e1] at hx
      obtain ⟨i, off, ty, n, ag, hi, hf, hl, h1, hK⟩ := h
      subst hK; exact ⟨by simp, by simp, op_field hop (hT t i hi) hf hW hx hl h1⟩
    · exact h.elim
  | fieldAddr t x f =>
    rw [hop] at h hA
    have hx := hA x (by simp [Op.operands])
    obtain ⟨i, off, ty, n, ag, hi, hf, h⟩ := h
    split at h
    · rename_i cs e1
      rw [e1] at hx
      subst h; exact ⟨by simp, by simp, op_fieldPt hop (hT t i hi) hf hW hx⟩
    · rename_i b o0 e1
      rw [e1] at hx
      subst h; exact ⟨by simp, by simp, op_fieldPtr hop (hT t i hi) hf hW hx⟩
    · rename_i b o0 e1
      rw [e1] at hx
      subst h; exact ⟨by simp, by simp, op_fieldOptr hop (hT t i hi) hf hW hx⟩
    · exact h.elim
  | indexAddr t x y =>
    rw [hop] at h hA
    have hx := hA x (by simp [Op.operands])
    have hy := hA y (by simp [Op.operands])
    rcases h with ⟨i, e, sz, n, ag, j, b, o0, hi, har, hj, h0, hlt, e1, hK⟩ | h
    · obtain ⟨k, hk⟩ := numOf_eq hj
      rw [hk] at hy
      rw [e1] at hx
      subst hK; exact ⟨by simp, by simp, op_indexAddrA hop (hT t i hi) har hW hx hy h0 hlt⟩
    obtain ⟨i, e, ie, j, hi, hsl, hie, hj, h0, h⟩ := h
    obtain ⟨k, hk⟩ := numOf_eq hj
    rw [hk] at hy
    split at h
    · rename_i rows e1
      rw [e1] at hx
      obtain ⟨row, hr, hl, hK⟩ := h
      subst hK; exact ⟨by simp, by simp, op_indexSl hop (hT t i hi) hsl (hT e ie hie) hW hx hy h0 hr hl⟩
    · rename_i b e1
      rw [e1] at hx
      obtain ⟨hd, h⟩ := h
      have hcb := crown hx
      split at h
      · rename_i e' sz rs hbx
        obtain ⟨rfl, hlt, hK⟩ := h
        obtain ⟨u1, u2, u3⟩ := hus (by rw [hop]; rfl) x (by rw [hop]; simp [Op.operands]) b (by rw [e1]; simp [usesOf]) hcb
        subst hK; exact ⟨by simp, by simp, op_indexOwn hop (hT t i hi) hsl (hT e ie hie) hW hx (u2 hd) (u1.trans hbx) hy h0 hlt⟩
      · exact h.elim
    · exact h.elim
  | index t x y =>
    rw [hop] at h hA
    have hx := hA x (by simp [Op.operands])
    have hy := hA y (by simp [Op.operands])
    simp only at h
    split at h
    · rename_i s e1
      rw [e1] at hx
      obtain ⟨i, j, hi, hst, hj, h0, hlt, hK⟩ := h
      obtain ⟨k, hk⟩ := numOf_eq hj
      rw [hk] at hy
      subst hK; exact ⟨by simp, by simp, op_indexStr hop (tyOk_str (hT t i hi) hst) hW hx hy h0 hlt⟩
    · rename_i cs e1
      rw [e1] at hx
      obtain ⟨i, e, sz, n, ag, j, hi, har, hj, h0, hlt, hl, h1, hK⟩ := h
      obtain ⟨k, hk⟩ := numOf_eq hj
      rw [hk] at hy
      subst hK; exact ⟨by simp, by simp, op_indexA hop (hT t i hi) har hW hx hy h0 hlt hl h1⟩
    · exact h.elim
  | load t x =>
    rw [hop] at h hA
    have hx := hA x (by simp [Op.operands])
    obtain ⟨i, hi, h1, hn0, h⟩ := h
    split at h
    · rename_i cs e1
      rw [e1] at hx
      obtain ⟨hl, hK⟩ := h
      subst hK; exact ⟨by simp, by simp, op_loadPt hop (hT t i hi) h1 hl hW hx⟩
    · rename_i b off e1
      rw [e1] at hx
      obtain ⟨hd, h⟩ := h
      have hcb := crptr hx
      split at h
      · rename_i cs hbx
        obtain ⟨hl, hC, hK⟩ := h
        obtain ⟨u1, u2, u3⟩ := hus (by rw [hop]; rfl) x (by rw [hop]; simp [Op.operands]) b (by rw [e1]; simp [usesOf]) hcb
        subst hK; exact ⟨by simp, by simp, op_loadPtr hop (hT t i hi) h1 hl hn0 hC hW hx (u2 hd) (u1.trans hbx)⟩
      · exact h.elim
    · rename_i b off e1
      rw [e1] at hx
      obtain ⟨hd, h⟩ := h
      have hcb := croptr hx
      split at h
      · rename_i e' sz rs hbx
        obtain ⟨j, row, hr, hj, hl, hK⟩ := h
        obtain ⟨u1, u2, u3⟩ := hus (by rw [hop]; rfl) x (by rw [hop]; simp [Op.operands]) b (by rw [e1]; simp [usesOf]) hcb
        subst hK; exact ⟨by simp, by simp, op_loadOptr hop (hT t i hi) h1 hn0 hW hx (u2 hd) (u1.trans hbx) hr hj hl⟩
      · exact h.elim
    · exact h.elim
  | slice t x lo hi mx =>
    rw [hop] at h hA
    have hx := hA x (by simp [Op.operands])
    obtain ⟨i, e, ie, hi', hsl, hie, h⟩ := h
    split at h
    · rename_i rows e1
      rw [e1] at hx
      obtain ⟨hrl, h⟩ := h
      have hbound : ∀ (d : Int) (ob : Option Operand) (K : Int → Prop), (∀ y, ob = some y → y ∈ (Op.slice t x lo hi mx).operands) → boundK ρ d ob K → ∃ n, K n ∧ (ob = none → n = d) ∧ ∀ y, ob = some y → ∃ k : IntKind, AR Z w β cr (.c (.sc (.int k n))) (a.eval y) := fun d ob K hm hb => by
        cases ob with
        | none => exact ⟨d, hb, fun _ => rfl, fun y h => by cases h⟩
        | some y =>
          obtain ⟨n, hn, hK⟩ := hb
          obtain ⟨k, hk⟩ := numOf_eq hn
          refine ⟨n, hK, (fun h => by cases h), fun y' hy' => ?_⟩
          injection hy' with hy'
          subst hy'
          have := hA y (hm y rfl)
          rw [hk] at this
          exact ⟨k, this⟩
      obtain ⟨l, h, hl0, hl1⟩ := hbound 0 lo _ (fun y hy => by subst hy; simp [Op.operands]) h
      obtain ⟨hh, h, hh0, hh1⟩ := hbound rows.length hi _ (fun y hy => by subst hy; simp [Op.operands]) h
      obtain ⟨c1, c2, c3, c4, c5, hK⟩ := h
      obtain ⟨m, ⟨m1, m2⟩, _, hm1⟩ := hbound hh mx _ (fun y hy => by subst hy; simp [Op.operands]) c5
      subst hK
      refine ⟨by simp, by simp, op_sliceSl (lo := l.toNat) (hi := hh.toNat) hop (hT t i hi') hsl (hT e ie hie) hW hx hrl ?_ ?_ ?_ (by omega) (by omega)⟩
      · cases lo with
        | none => have := hl0 rfl; simp only [BoundR]; omega
        | some y =>
          obtain ⟨k, hk⟩ := hl1 y rfl
          refine ⟨k, ?_⟩
          rwa [Int.toNat_of_nonneg c1]
      · cases hi with
        | none => have := hh0 rfl; simp only [BoundR]; omega
        | some y =>
          obtain ⟨k, hk⟩ := hh1 y rfl
          refine ⟨k, ?_⟩
          rwa [Int.toNat_of_nonneg (by omega)]
      · intro y hy
        obtain ⟨k, hk⟩ := hm1 y hy
        refine ⟨c4 (by rw [hy]; rfl), k, m.toNat, ?_, by omega, by omega⟩
        rwa [Int.toNat_of_nonneg (by omega)]
    · rename_i b e1
      rw [e1] at hx
      obtain ⟨hd, hf, hlo, hmx, h⟩ := h
      subst hlo; subst hmx
      have hcb := crown hx
      split at h
      · rename_i e' sz rs y hbx
        obtain ⟨he', hsz, hh, hn, h0, hle, hK⟩ := h
        subst he'; subst hsz
        obtain ⟨k, hk⟩ := numOf_eq hn
        have hy := hA y (by simp [Op.operands])
        rw [hk] at hy
        obtain ⟨u1, u2, u3⟩ := hus (by rw [hop]; rfl) x (by rw [hop]; simp [Op.operands]) b (by rw [e1]; simp [usesOf]) hcb
        subst hK
        refine ⟨by simp, by simpa using hcb, op_cut (hi := hh.toNat) (k := k) hop (hT t i hi') hsl (hT e' ie hie) hW (hbn _ rfl).1 (hbn _ rfl).2.2 hx (u2 hd) (u1.trans hbx) (fun hfb => hf (u3 (by rw [hop]; rfl) hfb)) ?_ (by omega)⟩
        rwa [Int.toNat_of_nonneg h0]
      · exact h.elim
    · exact h.elim
  | nilCheck x =>
    rw [hop] at h hA
    have hx := hA x (by simp [Op.operands])
    simp only at h
    split at h
    · rename_i cs e1
      rw [e1] at hx
      subst h; exact ⟨by simp, by simp, op_nilCheck hop hW hx (.inl ⟨_, rfl⟩)⟩
    · rename_i b off e1
      rw [e1] at hx
      subst h; exact ⟨by simp, by simp, op_nilCheck hop hW hx (.inr ⟨_, _, rfl⟩)⟩
    · exact h.elim
  | alloc t =>
    rw [hop] at h
    obtain ⟨i, hi, hz, hK⟩ := h
    subst hK; exact ⟨by simp, by simp, op_alloc hop (hT t i hi) hz hW (hbn _ rfl).1 (hbn _ rfl).2.2⟩
  | box t x =>
    rw [hop] at h hA
    have hx := hA x (by simp [Op.operands])
    obtain ⟨cs, hc, hK⟩ := h
    subst hK; exact ⟨by simp, by simp, op_box hop hW hx hc (fun b hb hcb hd => by
      obtain ⟨u1, u2, u3⟩ := hus (by rw [hop]; rfl) x (by rw [hop]; simp [Op.operands]) b (by rw [hb]; simp [usesOf]) hcb
      exact ⟨u2 hd, u1⟩) (hbn _ rfl).1 (hbn _ rfl).2.2⟩
  | build t parts =>
    rw [hop] at h hA
    rcases h with ⟨i, e, sz, n, ag, f, r, hi, hz, har, hf, hr, hK⟩ | h
    · subst hK
      refine ⟨by simp, by simp, op_buildA hop (hT t i hi) hz har hW (fun p hp => hA p.2 ?_) hf hr⟩
      simp only [Op.operands, List.mem_toArray, List.mem_map, Array.mem_toList_iff]
      exact ⟨p, hp, rfl⟩
    obtain ⟨i, f, r, hi, hz, hfs, hf, hr, hK⟩ := h
    subst hK
    refine ⟨by simp, by simp, op_build hop (hT t i hi) hz hfs hW (fun p hp => hA p.2 ?_) hf hr⟩
    simp only [Op.operands, List.mem_toArray, List.mem_map, Array.mem_toList_iff]
    exact ⟨p, hp, rfl⟩
  | buildSlice t n parts =>
    rw [hop] at h hA
    obtain ⟨i, e, ie, rs, hi, hsl, hie, hz, hn0, hr, hn, hsm, hK⟩ := h
    subst hK
    refine ⟨by simp, by simp, op_buildSlice hop (hT t i hi) hsl (hT e ie hie) hz hW (hbn _ rfl).1 (hbn _ rfl).2.2 (fun p hp => hA p.2 ?_) hr hn hsm hn0⟩
    simp only [Op.operands, List.mem_toArray, List.mem_map, Array.mem_toList_iff]
    exact ⟨p, hp, rfl⟩
  | makeFunc fn first captured =>
    rw [hop] at h hA
    cases fn with
    | func g =>
      simp only at h
      obtain ⟨rfl, css, fs, hc, hd, hK⟩ := h
      have hAc : ∀ x ∈ captured, AR Z w β cr (ρ x) (a.eval x) := fun x hx => hA x (by simp [Op.operands, hx])
      have hcb : ∀ (l : List AV) (css : List (List C)) (fs : List Nat), capsOf bxR l = some (css, fs) → ∀ b ∈ fs, AV.ptr b 0 ∈ l := fun l => by
        induction l with
        | nil =>
          intro css fs h b hb
          simp only [capsOf, Option.some.injEq, Prod.mk.injEq] at h
          obtain ⟨rfl, rfl⟩ := h
          simp at hb
        | cons x l ih =>
          intro css fs h b hb
          simp only [capsOf] at h
          cases h1 : capOf bxR x with
          | none => rw [h1] at h; simp at h
          | some p =>
            cases h2 : capsOf bxR l with
            | none => rw [h1, h2] at h; simp at h
            | some q =>
              rw [h1, h2] at h
              simp only [Option.some.injEq, Prod.mk.injEq] at h
              obtain ⟨_, rfl⟩ := h
              rcases List.mem_append.1 hb with hb | hb
              · cases x <;> simp only [capOf, reduceCtorEq] at h1
                case ptr b' off =>
                  cases off with
                  | succ k => simp [capOf] at h1
                  | zero =>
                    simp only [capOf] at h1
                    split at h1
                    · split at h1
                      · simp only [Option.some.injEq] at h1
                        subst h1
                        simp only [List.mem_singleton] at hb
                        subst hb
                        exact List.mem_cons_self
                      · simp at h1
                    · simp at h1
                case pt cs =>
                  simp only [Option.some.injEq] at h1
                  subst h1
                  simp at hb
              · exact List.mem_cons_of_mem _ (ih _ _ h2 b hb)
      have hcr : ∀ b ∈ fs, cr b := fun b hb => by
        have hm := hcb _ _ _ hc b hb
        obtain ⟨x, hx, he⟩ := List.mem_map.1 hm
        have := hAc x (by simpa using hx)
        rw [he] at this
        exact crptr this
      have hcaps : ∀ (l : List AV), (∀ b, AV.ptr b 0 ∈ l → bx b = bxR b) → capsOf bx l = capsOf bxR l := fun l => by
        induction l with
        | nil => intro _; rfl
        | cons x l ih =>
          intro hl
          simp only [capsOf]
          rw [ih (fun b hb => hl b (List.mem_cons_of_mem _ hb))]
          have : capOf bx x = capOf bxR x := by
            cases x <;> try rfl
            case ptr b off =>
              cases off with
              | succ k => rfl
              | zero => simp only [capOf]; rw [hl b (by simp)]
          rw [this]
      have hptr : ∀ b, AV.ptr b 0 ∈ captured.toList.map ρ → bx b = bxR b ∧ (b ∉ deadl → lv b) ∧ (needF o.op = true → fz b → b ∈ fzl) := fun b hm => by
        obtain ⟨x, hx, he⟩ := List.mem_map.1 hm
        have hx' : x ∈ captured := by simpa using hx
        have := hAc x hx'
        rw [he] at this
        exact hus (by rw [hop]; rfl) x (by rw [hop]; simp [Op.operands, hx']) b (by rw [he]; simp [usesOf]) (crptr this)
      subst hK
      exact ⟨fun b hb => .inl (hcr b hb), by simp, op_makeFunc (ρ := ρ) hop hW hAc (by rw [hcaps _ (fun b h => (hptr b h).1)]; exact hc) (fun b hb => (hptr b (hcb _ _ _ hc b hb)).2.1 (hd b hb))⟩
    | _ => exact h.elim
  | call c =>
    rw [hop] at h hA
    obtain ⟨callee, as, ts⟩ := c
    cases callee with
    | builtin bi =>
      cases bi <;> simp only at h
      case len =>
        obtain ⟨x, t, i, rfl, rfl, hi, h⟩ := h
        have hx := hA x (by simp [Op.operands, Call.operands])
        have hti := hT t i hi
        split at h
        · rename_i rows e1
          rw [e1] at hx
          obtain ⟨hs, hK⟩ := h
          obtain ⟨e, he⟩ := Option.isSome_iff_exists.1 hs
          subst hK; exact ⟨by simp, by simp, op_lenSl hop hti he hW hx⟩
        · rename_i e1
          rw [e1] at hx
          obtain ⟨hs, hK⟩ := h
          obtain ⟨e, he⟩ := Option.isSome_iff_exists.1 hs
          subst hK; exact ⟨by simp, by simp, op_lenNil hop hti he hW hx⟩
        · rename_i b e1
          rw [e1] at hx
          obtain ⟨hs, hd, h⟩ := h
          obtain ⟨e, he⟩ := Option.isSome_iff_exists.1 hs
          have hcb := crown hx
          split at h
          · rename_i e' sz rs hbx
            obtain ⟨u1, u2, u3⟩ := hus (by rw [hop]; rfl) x (by rw [hop]; simp [Op.operands, Call.operands]) b (by rw [e1]; simp [usesOf]) hcb
            subst h; exact ⟨by simp, by simp, op_lenOwn hop hti he hW hx (u2 hd) (u1.trans hbx)⟩
          · exact h.elim
        · rename_i s e1
          rw [e1] at hx
          obtain ⟨hs, hK⟩ := h
          subst hK; exact ⟨by simp, by simp, op_lenStr hop (tyOk_str hti hs) hW hx⟩
        · exact h.elim
      case append =>
        obtain ⟨x, y, t, t', it, it', e, e', ie, rfl, rfl, hi, hsl, hi', hsl', hie, hz, hby, hn0, h⟩ := h
        have hx := hA x (by simp [Op.operands, Call.operands])
        have hy := hA y (by simp [Op.operands, Call.operands])
        have hdst : ∀ (K : List (List C) → List Nat → Prop), dstK bxR deadl e ie.n (ρ x) K → ∃ rs kill, K rs kill ∧ (∀ b ∈ kill, cr b ∧ (fz b → b ∈ fzl)) ∧ Dst lv bx e ie.n rs kill (ρ x) := fun K hk => by
          cases hρ : ρ x <;> rw [hρ] at hk hx <;> simp only [dstK] at hk
          case nil => exact ⟨_, _, hk, by simp, .inl ⟨rfl, rfl, rfl⟩⟩
          case own b =>
            have hcb := crown hx
            obtain ⟨hd, hk⟩ := hk
            obtain ⟨u1, u2, u3⟩ := hus (by rw [hop]; rfl) x (by rw [hop]; simp [Op.operands, Call.operands]) b (by rw [hρ]; simp [usesOf]) hcb
            split at hk
            · rename_i e'' sz' rs hbx
              obtain ⟨rfl, rfl, hk⟩ := hk
              exact ⟨_, _, hk, by simpa using ⟨hcb, u3 (by rw [hop]; rfl)⟩, .inr ⟨b, rfl, rfl, u2 hd, u1.trans hbx⟩⟩
            · exact hk.elim
        obtain ⟨rs, kill, h, hkc, hD⟩ := hdst _ h
        have hsrc : ∀ (K : List (List C) → Prop), srcK bxR deadl ie.n (ρ y) K → ∃ xs, K xs ∧ Src Z w ie.n xs (a.eval y) ∧ rowLen ie.n xs := fun K hk => by
          cases hρ : ρ y <;> rw [hρ] at hk hy
          case nil =>
            simp only [srcK] at hk
            exact ⟨_, hk, .nil hy, by simp [rowLen]⟩
          case c x =>
            cases x <;> simp only [srcK] at hk
            case sl xs => exact ⟨_, hk.2, .sl hy.sl_inv hk.1 hn0, hk.1⟩
          case own b =>
            simp only [srcK] at hk
            have hcb := crown hy
            obtain ⟨hd, hk⟩ := hk
            obtain ⟨u1, u2, u3⟩ := hus (by rw [hop]; rfl) y (by rw [hop]; simp [Op.operands, Call.operands]) b (by rw [hρ]; simp [usesOf]) hcb
            split at hk
            · rename_i e'' sz' xs hbx
              obtain ⟨rfl, hrl, hk⟩ := hk
              exact ⟨_, hk, .own hW hy (u2 hd) (u1.trans hbx), hrl⟩
            · exact hk.elim
          all_goals (simp only [srcK] at hk)
        obtain ⟨xs, ⟨hbytes, hK⟩, hS, hrl⟩ := hsrc _ h
        subst hK
        refine ⟨fun b hb => ?_, fun b hb => (hkc b hb).1, op_append (fr := kill.any fun b => fzl.contains b) hop (hT t it hi) hsl (hT t' it' hi') hsl' (hT e ie hie) hz hby hW (hbn _ rfl).1 (hbn _ rfl).2.2 hx hD hS hrl hbytes (fun b hb hfb => ?_)⟩
        · simp only at hb
          split at hb
          · simp only [List.mem_singleton] at hb
            exact .inr ⟨hb, rfl⟩
          · simp at hb
        · rw [List.any_eq_true]
          exact ⟨b, hb, by simpa using (hkc b hb).2 hfb⟩
    | value fo =>
      simp only at h
      split at h
      · rename_i g caps e1
        have hfo := hA fo (by simp [Op.operands, Call.operands])
        rw [e1] at hfo
        have hAs : ∀ x ∈ as, AR Z w β cr (ρ x) (a.eval x) := fun x hx => hA x (by simp [Op.operands, Call.operands, hx])
        have hof : ∀ x ∈ as, ∀ b ∈ frzOf (ρ x), cr b ∧ bx b = bxR b ∧ (b ∉ deadl → lv b) ∧ (fz b → b ∈ fzl) := fun x hx b hb => by
          have := hAs x hx
          cases hρ : ρ x <;> rw [hρ] at hb this <;> simp [frzOf] at hb
          subst hb
          have h3 := hus (by rw [hop]; rfl) x (by rw [hop]; simp [Op.operands, Call.operands, hx]) _ (by rw [hρ]; simp [usesOf]) (crown this)
          exact ⟨crown this, h3.1, h3.2.1, h3.2.2 (by rw [hop]; rfl)⟩
        have hth : (as.toList.map fun x => thawF bx (ρ x)) = as.toList.map fun x => thawF bxR (ρ x) := by
          refine List.map_congr_left fun x hx => ?_
          cases hρ : ρ x <;> try rfl
          rename_i b
          simp only [thawF]
          rw [(hof x (by simpa using hx) b (by rw [hρ]; simp [frzOf])).2.1]
        rcases h with h | h
        · obtain ⟨hd, r, hok, hK⟩ := h
          have hl : ∀ x ∈ as, ∀ b ∈ frzOf (ρ x), lv b := fun x hx b hb => (hof x hx b hb).2.2.1 (hd b (List.mem_flatMap.2 ⟨x, by simpa using hx, hb⟩))
          have hfc : ∀ b ∈ as.toList.flatMap (fun x => frzOf (ρ x)), cr b := fun b hb => by
            obtain ⟨x, hx, hb⟩ := List.mem_flatMap.1 hb
            exact (hof x (by simpa using hx) b hb).1
          cases r with
          | v x =>
            simp only at hK
            subst hK
            refine ⟨fun b hb => .inl (hfc b hb), by simp, ?_⟩
            exact op_call (ρ := ρ) (r := .v x) hop hW hfo hAs hl (by rw [hth]; exact hok) (fun y h => by cases h)
          | own e sz rs =>
            simp only at hK
            subst hK
            refine ⟨fun b hb => .inl (hfc b hb), by simp, ?_⟩
            exact op_call (ρ := ρ) (r := .own e sz rs) hop hW hfo hAs hl (by rw [hth]; exact hok) (fun y h => by cases h; exact hbn _ rfl)
          | mix pre e sz rs post =>
            simp only at hK
            subst hK
            refine ⟨fun b hb => .inl (hfc b hb), by simp, ?_⟩
            exact op_call (ρ := ρ) (r := .mix pre e sz rs post) hop hW hfo hAs hl (by rw [hth]; exact hok) (fun y h => by cases h; exact hbn _ rfl)
        · rcases h with ⟨e', sz, bytes, b, b2, i, rs, row2, rfl, hraw, hI, ⟨d1, d2, d3, d4⟩, hb, hb2, hi, hby, hK⟩ | ⟨e', sz, b, i, rs, rfl, hraw, hI, ⟨d1, d2⟩, hb, hi, hK⟩ | ⟨hd, u, hu, hok, hK⟩
          · subst hK
            obtain ⟨x, y, z, rfl, hx, hy, hz⟩ := mapThree hraw
            have ax := hAs x (by simp)
            have ay := hAs y (by simp)
            have az := hAs z (by simp)
            obtain ⟨c1, c2, c3, c4⟩ := hof x (by simp) b (by rw [hx]; simp [frzOf])
            obtain ⟨g1, g2, g3, g4⟩ := hof z (by simp) b2 (by rw [hz]; simp [frzOf])
            rw [hx] at ax
            rw [hy] at ay
            rw [hz] at az
            exact ⟨by simp, fun b' h => by rw [List.mem_singleton] at h; subst h; exact c1, op_ins hop hI hW hfo ax ay az (c3 d1) (fun h => d2 (c4 h)) (by rw [c2]; exact hb) (g3 d3) (by rw [g2]; exact hb2) d4 hi hby (hbn _ rfl).1 (hbn _ rfl).2.2⟩
          · subst hK
            obtain ⟨x, y, z, rfl, hx, hy, hz⟩ := mapThree hraw
            have ax := hAs x (by simp)
            have ay := hAs y (by simp)
            have az := hAs z (by simp)
            obtain ⟨c1, c2, c3, c4⟩ := hof x (by simp) b (by rw [hx]; simp [frzOf])
            rw [hx] at ax
            rw [hy] at ay
            rw [hz] at az
            exact ⟨by simp, fun b' h => by rw [List.mem_singleton] at h; subst h; exact c1, op_del hop hI hW hfo ax ay az (c3 d1) (fun h => d2 (c4 h)) (by rw [c2]; exact hb) hi (hbn _ rfl).1 (hbn _ rfl).2.2⟩
          · subst hK
            refine ⟨by simp, by simp, op_rd (ρ := ρ) hop hu hW hfo hAs (fun x hx b hb => (hof x hx b hb).2.2.1 (hd b ?_)) (by rw [hth]; rwa [List.map_map] at hok)⟩
            exact List.mem_flatMap.2 ⟨ρ x, List.mem_map.2 ⟨x, by simpa using hx, rfl⟩, hb⟩
      · exact h.elim
    | invoke r m => exact h.elim
  | _ => rw [hop] at h; exact h.elim
end
end Go.Vam

/- An abstract machine over data (part 8): stores, states, regions in the text's order, code. -/
namespace Go.Vam
open Go.RowKit
set_option linter.unusedVariables false
set_option linter.unusedSimpArgs false

/-! ### 1. Stores -/
section
variable {P : Program} {tt : TT} {base : Nat} {w0 : World} {Z : Zone} {β : Nat → Value} {cr lv fz : Nat → Prop} {bx : Nat → Option Bx} {nb : Nat} {w : World} {a : Act} {o : Oper} {ρ : Operand → AV} {deadl fzl : List Nat}

/-- A box takes other cells: the world behind it. -/
theorem WR.store {b g : Nat} {x x' : Bx} {arr arr' : Array Value} {t : TypeId} (hW : WR base w0 Z β cr lv fz bx w) (hlv : lv b) (hbx : bx b = some x) (hblk : blk (β b) = some g) (hh : w.heap[g]? = some (.cells arr t (0, 0)))
    (hnz : ∀ a, Z a → a.block ≠ g) (hbox : BoxR base Z (w.setRow g arr') β cr fz b x') :
    WR base w0 Z β cr lv fz (upd bx b (some x')) (w.setRow g arr') ∧ Ext Z Z w (w.setRow g arr') := by
  have hg : w.grownBy (w.setRow g arr') (some g) := ⟨rfl, rfl, rfl, by simp, fun k hk hk' => setRow_other w g k _ (fun e => hk' (by rw [e]))⟩
  have he : Ext Z Z w (w.setRow g arr') := ext_of_grown hg hW.zin (fun a ha e => hnz a ha (by simpa using e))
  obtain ⟨y, hy, hB⟩ := hW.box b hlv
  have hbg := (hB.blk_base hblk).1
  refine ⟨⟨hW.below.grown hg hW.hbase (fun k e => by injection e with e; omega), Nat.le_trans hW.hbase hg.size, fun a ha => Nat.lt_of_lt_of_le (hW.zin a ha) hg.size, hW.zsp, fun b' hl => ?_, hW.dis, hW.sub, hW.oth.trans (.of_grownBy hg fun j o hj ho => by injection hj with hj; subst hj; rw [hh] at ho; injection ho with ho; subst ho; rfl)⟩, he⟩
  by_cases hbb : b' = b
  · subst hbb
    exact ⟨x', by simp [upd], hbox⟩
  · obtain ⟨z, hz, hB'⟩ := hW.box b' hl
    refine ⟨z, by simp [upd, hbb, hz], hB'.ext he (fun b h => ⟨h, rfl⟩) (hW.sub b' hl) (fun g' hg' => hg.block g' (hB'.blk_base hg').2 (fun e => ?_)) (fun g' hg' a ha e => .inl ha) id⟩
    injection e with e
    subst e
    exact hW.dis b' b g' hl hlv hbb hg' hblk

theorem splice_get {α : Type} (l m : List α) (off i : Nat) (h : off + m.length ≤ l.length) : (l.take off ++ m ++ l.drop (off + m.length))[i]? = if off ≤ i ∧ i < off + m.length then m[i - off]? else l[i]? := by
  have hlt : (l.take off).length = off := by simp; omega
  by_cases h1 : i < off
  · rw [if_neg (by omega), List.append_assoc, List.getElem?_append_left (by omega), List.getElem?_take, if_pos h1]
  · by_cases h2 : i < off + m.length
    · rw [if_pos (by omega), List.append_assoc, List.getElem?_append_right (by omega), List.getElem?_append_left (by omega), hlt]
    · rw [if_neg (by omega), List.getElem?_append_right (by simp; omega), List.getElem?_drop]
      congr 1
      simp only [List.length_append, hlt]
      omega

theorem op_storePtr {t : TypeId} {x y : Operand} {i : TyI} {b off : Nat} {cs m : List AV} {r : AV} (ho : o.op = .store t x y) (hty : tyOk P t i = true) (hm : m.length = i.n) (hlen : off + i.n ≤ cs.length)
    (hW : WR base w0 Z β cr lv fz bx w) (hdead : ∀ b, cr b → b ∉ deadl → lv b) (hx : AR Z w β cr (.ptr b off) (a.eval x)) (hlv : lv b) (hb : bx b = some (.cells cs)) (hnf : ¬ fz b)
    (hy : AR Z w β cr r (a.eval y)) (hr : stOf bx deadl r = some m) :
    ∃ w', (execOp a.eval o).run P w = .ok .skip w' ∧ WR base w0 Z β cr lv fz (upd bx b (some (.cells (cs.take off ++ m ++ cs.drop (off + m.length))))) w' ∧ Ext Z Z w w' := by
  obtain ⟨_, ⟨inf, hinf, hinfn, _⟩, _⟩ := tyOk_spec hty
  obtain ⟨s1, s2⟩ := stOf_sound hW (fun b _ h1 h2 => ⟨hdead b h1 h2, rfl⟩) hy hr
  have hS : (sizeOf t).run P w = .ok i.n w := by simp [sizeOf, typeInfo, hinf, hinfn]
  generalize hq : a.eval x = q at hx
  cases hx with
  | ptr b off g hcb h =>
    obtain ⟨xx, hxx, hB⟩ := hW.box b hlv
    rw [hb] at hxx
    injection hxx with hxx
    subst hxx
    cases hB with
    | cells cs g' arr ty hv hg hh hl hc hz =>
      have hgg : g' = g := by rw [hv] at h; simpa using h
      subst hgg
      have hst := run_storeCells_at P g' off ty (a.eval y).cells.toList 0 arr w hh (by simp; omega) (fun u hu => by
        obtain ⟨k, hk⟩ := List.mem_iff_getElem?.1 hu
        have hkl : k < m.length := by rw [← s1]; have := (List.getElem?_eq_some_iff.1 hk).1; simpa using this
        exact (s2 k _ u (List.getElem?_eq_getElem hkl) (by simpa using hk)).2)
      simp only [Nat.add_zero] at hst
      have hrunok : (execOp a.eval o).run P w = .ok .skip (w.setRow g' (arr.toList.take off ++ (a.eval y).cells.toList ++ arr.toList.drop (off + (a.eval y).cells.toList.length)).toArray) := by
        have hne : ¬ ((a.eval y).cells.size ≠ i.n) := by rw [s1, hm]; simp
        simp only [execOp, ho, Instr.storeAt, hq, Instr.sureAddr, storeVar, Sem.run_bind, Sem.run_pure, Result.andThen_ok, hS]
        rw [if_neg hne]
        simp only [hst, Result.andThen_ok]
      refine ⟨_, hrunok, WR.store hW hlv hb (by rw [hv]; rfl) hh (hz hnf) ?_⟩
      · have hvl : (a.eval y).cells.toList.length = m.length := by rw [Array.length_toList, s1]
        have hgr : w.grownBy (w.setRow g' (arr.toList.take off ++ (a.eval y).cells.toList ++ arr.toList.drop (off + (a.eval y).cells.toList.length)).toArray) (some g') := ⟨rfl, rfl, rfl, by simp, fun k hk hk' => setRow_other w g' k _ (fun e => hk' (by rw [e]))⟩
        have he : Ext Z Z w _ := ext_of_grown hgr hW.zin (fun a ha e => hz hnf a ha (by simpa using e))
        refine .cells _ g' _ ty hv hg (setRow_heap w g' arr _ ty _ hh) ?_ (fun k z u h1 h2 => ?_) hz
        · simp only [List.size_toArray, List.length_append, List.length_take, List.length_drop, Array.length_toList]
          rw [s1]
          omega
        · rw [splice_get cs m off k (by omega)] at h1
          rw [List.getElem?_toArray, splice_get arr.toList _ off k (by rw [hvl]; simp; omega)] at h2
          rw [hvl] at h2
          split at h1
          · rename_i hk
            rw [if_pos hk] at h2
            exact (s2 _ z u h1 (by simpa using h2)).1.ext he (fun b h => ⟨h, rfl⟩)
          · rename_i hk
            rw [if_neg hk] at h2
            exact (hc k z u h1 (by simpa using h2)).ext he (fun b h => ⟨h, rfl⟩)
theorem op_storeOptr {t : TypeId} {x y : Operand} {i : TyI} {b off e sz j : Nat} {rs : List (List C)} {row m : List C} {r : AV} (ho : o.op = .store t x y) (hty : tyOk P t i = true) (hm : m.length = i.n) (hrow : rs[j]? = some row) (hj : j * sz ≤ off) (hlen : off - j * sz + i.n ≤ row.length)
    (hW : WR base w0 Z β cr lv fz bx w) (hx : AR Z w β cr (.optr b off) (a.eval x)) (hlv : lv b) (hb : bx b = some (.rows e sz rs)) (hnf : ¬ fz b)
    (hy : AR Z w β cr r (a.eval y)) (hr : rowOf r = some m) :
    ∃ w', (execOp a.eval o).run P w = .ok .skip w' ∧ WR base w0 Z β cr lv fz (upd bx b (some (.rows e sz (rs.set j (row.take (off - j * sz) ++ m ++ row.drop (off - j * sz + m.length)))))) w' ∧ Ext Z Z w w' := by
  obtain ⟨_, ⟨inf, hinf, hinfn, _⟩, _⟩ := tyOk_spec hty
  obtain ⟨s1, s2⟩ := hy.rowOf hr
  have hS : (sizeOf t).run P w = .ok i.n w := by simp [sizeOf, typeInfo, hinf, hinfn]
  generalize hq : a.eval x = q at hx
  cases hx with
  | optr b off g n cap hcb h =>
    obtain ⟨xx, hxx, hB⟩ := hW.box b hlv
    rw [hb] at hxx
    injection hxx with hxx
    subst hxx
    cases hB with
    | rows e sz rs inner hown hr' hc ht hz =>
      have hsz := hr' j row hrow
      have hjl := (List.getElem?_eq_some_iff.1 hrow).1
      have hmul : j * sz + sz ≤ rs.length * sz := by rw [← Nat.succ_mul]; exact Nat.mul_le_mul_right _ hjl
      rcases hown.2 with ⟨hv, hn⟩ | ⟨g', cap', cur, hv, hbs, hh, hnc, hcm, hcs, htake⟩
      · rw [hv] at h; simp at h
      · have hgg : g' = g := by rw [hv] at h; simp at h; exact h.1
        subst hgg
        have hcapsz : rs.length * sz ≤ cap' * sz := Nat.mul_le_mul_right _ hnc
        have hst := run_storeCells_at P g' off e (a.eval y).cells.toList 0 cur w hh (by simp; omega) (fun u hu => by
          obtain ⟨k, hk⟩ := List.mem_iff_getElem?.1 hu
          have hkl : k < m.length := by rw [← s1]; have := (List.getElem?_eq_some_iff.1 hk).1; simpa using this
          exact (s2 k _ u (List.getElem?_eq_getElem hkl) (by simpa using hk)).one)
        simp only [Nat.add_zero] at hst
        have hvl : (a.eval y).cells.toList.length = m.length := by rw [Array.length_toList, s1]
        have hob : (β b).ownBlock = some g' := by rw [hv]; rfl
        have hrunok : (execOp a.eval o).run P w = .ok .skip (w.setRow g' (cur.toList.take off ++ (a.eval y).cells.toList ++ cur.toList.drop (off + (a.eval y).cells.toList.length)).toArray) := by
          have hne : ¬ ((a.eval y).cells.size ≠ i.n) := by rw [s1, hm]; simp
          simp only [execOp, ho, Instr.storeAt, hq, Instr.sureAddr, storeVar, Sem.run_bind, Sem.run_pure, Result.andThen_ok, hS]
          rw [if_neg hne]
          simp only [hst, Result.andThen_ok]
        refine ⟨_, hrunok, WR.store hW hlv hb (by rw [hv]; rfl) hh (hz hnf g' hob) ?_⟩
        · have hgr : w.grownBy (w.setRow g' (cur.toList.take off ++ (a.eval y).cells.toList ++ cur.toList.drop (off + (a.eval y).cells.toList.length)).toArray) (some g') := ⟨rfl, rfl, rfl, by simp, fun k hk hk' => setRow_other w g' k _ (fun e => hk' (by rw [e]))⟩
          have he : Ext Z Z w _ := ext_of_grown hgr hW.zin (fun a ha e => hz hnf g' hob a ha (by simpa using e))
          have hlr : (row.take (off - j * sz) ++ m ++ row.drop (off - j * sz + m.length)).length = sz := by
            simp only [List.length_append, List.length_take, List.length_drop]
            omega
          refine .rows e sz _ ((cur.toList.take off ++ (a.eval y).cells.toList ++ cur.toList.drop (off + (a.eval y).cells.toList.length)).take (rs.length * sz)) ⟨?_, .inr ⟨g', cap', _, by rw [List.length_set]; exact hv, hbs, setRow_heap w g' cur _ e _ hh, by rw [List.length_set]; exact hnc, hcm, ?_, ?_⟩⟩ (fun j' row' hj' => ?_) (fun j' row' k c u h1 h2 h3 => ?_) (fun g0 hg0 a ha e1 => ?_) hz
          · rw [List.length_take, List.length_set]
            simp only [List.length_append, List.length_take, List.length_drop, Array.length_toList]
            rw [s1]
            omega
          · simp only [List.size_toArray, List.length_append, List.length_take, List.length_drop, Array.length_toList]
            rw [s1]
            omega
          · rw [List.length_set]
          · by_cases hjj : j = j'
            · subst hjj
              rw [List.getElem?_set_self hjl] at hj'
              simp only [Option.some.injEq] at hj'
              subst hj'
              exact hlr
            · rw [List.getElem?_set_ne hjj] at hj'
              exact hr' j' row' hj'
          · have hj'l : j' < rs.length := by have := (List.getElem?_eq_some_iff.1 h1).1; simpa using this
            have hmul' : j' * sz + sz ≤ rs.length * sz := by rw [← Nat.succ_mul]; exact Nat.mul_le_mul_right _ hj'l
            rw [List.getElem?_take] at h3
            split at h3
            · rw [splice_get cur.toList _ off _ (by rw [hvl]; simp; omega), hvl] at h3
              have hold : ∀ (k0 : Nat), k0 < rs.length * sz → cur.toList[k0]? = inner[k0]? := fun k0 hk0 => by
                rw [← htake, List.getElem?_take, if_pos hk0]
              by_cases hjj : j = j'
              · subst hjj
                rw [List.getElem?_set_self hjl] at h1
                simp only [Option.some.injEq] at h1
                subst h1
                have hk : k < sz := by rw [← hlr]; exact (List.getElem?_eq_some_iff.1 h2).1
                rw [splice_get row m _ k (by omega)] at h2
                split at h2
                · rename_i hkk
                  rw [if_pos (by omega)] at h3
                  refine (s2 _ c u h2 ?_).ext he
                  rw [show j * sz + k - off = k - (off - j * sz) by omega] at h3
                  simpa using h3
                · rename_i hkk
                  rw [if_neg (by omega), hold _ (by omega)] at h3
                  exact (hc j row k c u hrow h2 h3).ext he
              · rw [List.getElem?_set_ne hjj] at h1
                have hk : k < sz := by rw [← hr' j' row' h1]; exact (List.getElem?_eq_some_iff.1 h2).1
                have hfar : ¬ (off ≤ j' * sz + k ∧ j' * sz + k < off + m.length) := by
                  rcases Nat.lt_or_gt_of_ne hjj with hlt | hgt
                  · have : j * sz + sz ≤ j' * sz := by rw [← Nat.succ_mul]; exact Nat.mul_le_mul_right _ hlt
                    omega
                  · have : j' * sz + sz ≤ j * sz := by rw [← Nat.succ_mul]; exact Nat.mul_le_mul_right _ hgt
                    omega
                rw [if_neg hfar, hold _ (by omega)] at h3
                exact (hc j' row' k c u h1 h2 h3).ext he
            · cases h3
          · rw [List.length_set]
            exact ht g0 hg0 a ha e1
end
end Go.Vam
