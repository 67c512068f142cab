/- slices.Insert of one named patch: what it does to a list of one's own. -/
import Derived.Test.YthfogkmhgepgaaaGreatTt
import Derived.Test.YthfogkmhgepgaaaGreatG8
import Derived.WalkKit
import Derived.Lib.Walk
import Derived.Lib.SliceRun
import Derived.Lib.JoinLaws
import Derived.Lib.AppendZeros
import Derived.Lib.AppendZerosOnto
import Derived.Lib.Overlaps
import Derived.Laws.Externs
import Derived.Laws.IdiomCopy
import Derived.Shelf.Spec.SlicesInsert
namespace Go.Proofs.YthfogkmhgepgaaaGreat
open Go.RowKit Go.Lib
set_option linter.unusedVariables false
set_option linter.unusedSimpArgs false
theorem infFNamed : ∃ i : TypeInfo, Tryz.prog.info? 37 = some i ∧ i.size = 5 ∧ i.bytes = 80 := by
  have h : (Tryz.prog.info? 37).map (fun i => (i.size, i.bytes)) = some (5, 80) := by kernel_rfl
  cases h1 : Tryz.prog.info? 37 with
  | none => rw [h1] at h; simp at h
  | some i =>
    rw [h1] at h
    simp only [Option.map_some, Option.some.injEq, Prod.mk.injEq] at h
    exact ⟨i, rfl, h.1, h.2⟩
theorem szFNamed (w : World) : (Go.sizeOf 37).run Tryz.prog w = .ok 5 w := by
  obtain ⟨i, h, h1, _⟩ := infFNamed
  simp [Go.sizeOf, typeInfo, h, h1]
theorem mixFNamed : Tryz.prog.follows .mixedOrders = true := by kernel_rfl
def insA1Named (cur : Array Value) (n i : Nat) : Array Value := Go.Vam.over cur ((i + 1) * 5) ((cur.toList.take (n * 5)).drop (i * 5))
def insA2Named (cur : Array Value) (xs : List Value) (i : Nat) : Array Value := Go.Vam.over cur (i * 5) xs
def insB0NamedNamed (cur : Array Value) (z : Array Value) (n i G : Nat) : Array Value := ((cur.toList.take (i * 5)).toArray ++ Builtin.zeroCells z (n + 1 - i) ++ Builtin.zeroCells z (G - (n + 1)))
def insB2Named (cur : Array Value) (row : List Value) (n i : Nat) : Array Value := Go.Vam.over cur ((i + 1) * 5) row
set_option maxHeartbeats 4000000 in
set_option maxRecDepth 100000 in
theorem ins_shiftNamed (g n c i vb vc : Nat) (w : World) (cur curv : Array Value) (hi : i < n) (hroom : n + 1 ≤ c) (hc63 : c ≤ 9223372036854775807) (hg : w.heap[g]? = some (.cells cur 37 (0, 0))) (hgs : cur.size = c * 5)
    (hv : w.heap[vb]? = some (.cells curv 37 (0, 0))) (hvs : curv.size = vc * 5) (hvc : 1 ≤ vc) (hvb : vb ≠ g) (h1c : ∀ v ∈ cur.toList.take (n * 5), v.oneCell' = true) (h1v : ∀ v ∈ curv.toList.take 5, v.oneCell' = true) :
    Calls Tryz.prog 49 #[.slice (some ⟨g, 0, none⟩) n c, .int .i64 i, .slice (some ⟨vb, 0, none⟩) 1 vc] w fun e w' => e = .returned (.slice (some ⟨g, 0, none⟩) (n + 1) c) ∧
      w' = (w.drew.setRow g (insA1Named cur n i)).setRow g (insA2Named (insA1Named cur n i) (curv.toList.take 5) i) := by
  have t3 := Tryz.underlying3; have t4 := Tryz.underlying4; have t35 := Tryz.underlying22; have t36 := Tryz.underlying22
  have u3 := run_underlying Tryz.underlying3; have u4 := run_underlying Tryz.underlying4; have u35 := run_underlying Tryz.underlying22; have u36 := run_underlying Tryz.underlying22
  have hz := szFNamed
  have mixed := mixFNamed
  have hz2 : ¬ ((i : Int) = (n : Int)) := by omega
  have hin : i ≤ n := by omega
  have hov : ∀ o lb cb, (callFunc 63 #[.slice (some ⟨vb, 0, none⟩) 1 vc, .slice (some ⟨g, o, none⟩) lb cb]).run Tryz.prog w = .ok (.value (.bool false)) w := fun o lb cb => by
    rw [run_callFunc_extern Tryz.func63 (by kernel_rfl) (by kernel_rfl) (by kernel_rfl) (e := Extern.SlicesOverlaps.overlaps #[22, 22] #[4]) (by kernel_rfl),
      Lib.run_overlaps_apart w 22 4 37 Tryz.underlying22 5 szFNamed ⟨vb, 0, none⟩ ⟨g, o, none⟩ 1 vc lb cb hvb 37 37 curv.size cur.size (by simp [World.shape?, hv]) (by simp [World.shape?, hg]) (by omega) (by simp [World.frozen?, hv]) (by simp [World.frozen?, hv])]
    rfl
  obtain ⟨inf, hinf, hi2, hi40⟩ := infFNamed
  have hcl : ((cur.toList.take (n * 5)).drop (i * 5)).length = (n - i) * 5 := by
    simp only [List.length_drop, List.length_take, Array.length_toList, hgs]
    have : n * 5 ≤ c * 5 := by omega
    omega
  have hcp1 : ∀ ty dc sc, (Builtin.copy_ #[22, 22] ty #[.slice (some ⟨g, (i + 1) * 5, none⟩) (n - i) dc, .slice (some ⟨g, i * 5, none⟩) (n + 1 - i) sc]).run Tryz.prog w.drew = .ok (goInt ((n - i : Nat) : Int)) (w.drew.setRow g (insA1Named cur n i)) := fun ty dc sc => by
    have hmin : Nat.min (n + 1 - i) (n - i) = n - i := by simp only [Nat.min_def]; split <;> omega
    have := Go.Vam.run_copy_sz (P := Tryz.prog) w.drew 22 22 ty 37 inf g ((i + 1) * 5) (n - i) dc ⟨g, i * 5, none⟩ (n + 1 - i) sc cur 37 ((cur.toList.take (n * 5)).drop (i * 5)) Tryz.underlying22 hinf hg (by rw [hmin, hi2, hcl])
      (fun j v hj => by
        rw [List.getElem?_drop, List.getElem?_take] at hj
        split at hj
        · rw [Addr.add_lit, cell_of_row w.drew g (i * 5 + j) cur 37 (0, 0) hg]
          simpa using hj
        · cases hj)
      (by rw [hcl, hgs]; omega) (fun v hv => h1c v (List.mem_of_mem_drop hv))
    rw [hmin] at this
    exact this
  obtain ⟨W1, hW1⟩ : ∃ W1, W1 = w.drew.setRow g (insA1Named cur n i) := ⟨_, rfl⟩
  have hg1 : W1.heap[g]? = some (.cells (insA1Named cur n i) 37 (0, 0)) := by rw [hW1]; exact setRow_heap w.drew g cur _ 37 _ hg
  have hs1 : (insA1Named cur n i).size = c * 5 := by
    unfold insA1Named Go.Vam.over
    simp only [List.size_toArray, List.length_append, List.length_take, List.length_drop, Array.length_toList, hgs]
    omega
  have hcp2 : ∀ ty dc, (Builtin.copy_ #[22, 22] ty #[.slice (some ⟨g, i * 5, none⟩) (n + 1 - i) dc, .slice (some ⟨vb, 0, none⟩) 1 vc]).run Tryz.prog W1 = .ok (goInt 1) (W1.setRow g (insA2Named (insA1Named cur n i) (curv.toList.take 5) i)) := fun ty dc => by
    have hmin : Nat.min 1 (n + 1 - i) = 1 := by simp only [Nat.min_def]; split <;> omega
    have := Go.Vam.run_copy_sz (P := Tryz.prog) W1 22 22 ty 37 inf g (i * 5) (n + 1 - i) dc ⟨vb, 0, none⟩ 1 vc (insA1Named cur n i) 37 (curv.toList.take 5) Tryz.underlying22 hinf hg1 (by rw [hmin, hi2]; simp; omega)
      (fun j v hj => by
        rw [List.getElem?_take] at hj
        split at hj
        · rw [Addr.add_lit, Nat.zero_add, cell_of_row W1 vb j curv 37 (0, 0) (by rw [hW1]; rw [setRow_other _ _ _ _ hvb]; exact hv)]
          simpa using hj
        · cases hj)
      (by rw [hs1]; simp; omega) h1v
    rw [hmin] at this
    exact this
  subst hW1
  have hw1 : IntKind.i64.wrap ((i : Int) + 1) = (i : Int) + 1 := by rw [IntKind.wrap_i64]; omega
  have hb1 : (0 : Int) ≤ (i : Int) + 1 := by omega
  have htn : ((i : Int) + 1).toNat = i + 1 := by omega
  have hb2 : ¬ (c = i + 1) := by omega
  have hb3 : (i : Int) ≤ (n : Int) + 1 := by omega
  have hb4 : ¬ (c = i) := by omega
  have hb5 : i ≤ n + 1 := by omega
  go_enter Tryz.func49, Tryz.ntmps49
  go_wp2_with (simp only [hov])
  go_region_law_o (refine step_copy_runI rfl _ _ 22 22 rfl _ _ (by simp [Act.eval, Act.put]) (by simp [Act.eval, Act.put]) (hcp1 _ _ _) ?_)
  go_wp2_with (at_builtin; refine wpList_copy_runI _ rfl _ _ 22 22 rfl _ _ rfl rfl (hcp2 _ _) ?_)
  go_ret
  exact ⟨rfl, rfl⟩


set_option maxHeartbeats 4000000 in
set_option maxRecDepth 100000 in
theorem ins_endNamed (g n c vb vc : Nat) (w w' : World) (v' : Value) (hc63 : n ≤ 9223372036854775807) 
    (hrun : (Builtin.append_ #[22, 22] 22 #[.slice (some ⟨g, 0, none⟩) n c, .slice (some ⟨vb, 0, none⟩) 1 vc]).run Tryz.prog w = .ok v' w') :
    Calls Tryz.prog 49 #[.slice (some ⟨g, 0, none⟩) n c, .int .i64 n, .slice (some ⟨vb, 0, none⟩) 1 vc] w fun e w1 => e = .returned v' ∧ w1 = w' := by
  have t3 := Tryz.underlying3; have t4 := Tryz.underlying4; have t35 := Tryz.underlying22; have t36 := Tryz.underlying22
  have u3 := run_underlying Tryz.underlying3; have u4 := run_underlying Tryz.underlying4; have u35 := run_underlying Tryz.underlying22; have u36 := run_underlying Tryz.underlying22
  have hz := szFNamed
  have mixed := mixFNamed
  go_enter Tryz.func49, Tryz.ntmps49
  go_wp2_with (at_builtin; refine Lib.wpList_append_run _ rfl _ _ _ _ rfl _ _ rfl rfl _ _ hrun ?_)
  all_goals (go_ret; exact ⟨rfl, rfl⟩)
set_option maxHeartbeats 4000000 in
set_option maxRecDepth 100000 in
theorem ins_nilNamed (vb vc : Nat) (w w' : World) (v' : Value) 
    (hrun : (Builtin.append_ #[22, 22] 22 #[.slice none 0 0, .slice (some ⟨vb, 0, none⟩) 1 vc]).run Tryz.prog w = .ok v' w') :
    Calls Tryz.prog 49 #[.slice none 0 0, .int .i64 0, .slice (some ⟨vb, 0, none⟩) 1 vc] w fun e w1 => e = .returned v' ∧ w1 = w' := by
  have t3 := Tryz.underlying3; have t4 := Tryz.underlying4; have t35 := Tryz.underlying22; have t36 := Tryz.underlying22
  have u3 := run_underlying Tryz.underlying3; have u4 := run_underlying Tryz.underlying4; have u35 := run_underlying Tryz.underlying22; have u36 := run_underlying Tryz.underlying22
  have hz := szFNamed
  have mixed := mixFNamed
  go_enter Tryz.func49, Tryz.ntmps49
  go_wp2_with (at_builtin; refine Lib.wpList_append_run _ rfl _ _ _ _ rfl _ _ rfl rfl _ _ hrun ?_)
  go_ret
  exact ⟨rfl, rfl⟩
set_option maxHeartbeats 4000000 in
set_option maxRecDepth 100000 in
theorem ins_growNamed (g n i vb vc : Nat) (w : World) (cur curv : Array Value) (z : Value) (hi : i < n) (hbig : (n + 1) * 80 ≤ 140737488355328) (hg : w.heap[g]? = some (.cells cur 37 (0, 0))) (hgs : cur.size = n * 5)
    (hv : w.heap[vb]? = some (.cells curv 37 (0, 0))) (hvs : curv.size = vc * 5) (hvc : 1 ≤ vc) (hvb : vb ≠ g) (h1c : ∀ v ∈ cur.toList.take (n * 5), v.oneCell' = true) (h1v : ∀ v ∈ curv.toList.take 5, v.oneCell' = true)
    (hzv : (Tryz.prog.info? 37).bind (·.zero) = some z) (hzs : z.cells.size = 5) (G : Nat) (hG : G = grownCap w (n + 1) n 37) :
    Calls Tryz.prog 49 #[.slice (some ⟨g, 0, none⟩) n n, .int .i64 i, .slice (some ⟨vb, 0, none⟩) 1 vc] w fun e w' => e = .returned (.slice (some ⟨w.heap.size, 0, none⟩) (n + 1) G) ∧
      ∃ d, w' = (((w.drewN d).alloc (.cells (insB0NamedNamed cur z.cells n i G) 37)).setRow w.heap.size (insA2Named (insB0NamedNamed cur z.cells n i G) (curv.toList.take 5) i)).setRow w.heap.size (insB2Named (insA2Named (insB0NamedNamed cur z.cells n i G) (curv.toList.take 5) i) ((cur.toList.take (n * 5)).drop (i * 5)) n i) := by
  have t3 := Tryz.underlying3; have t4 := Tryz.underlying4; have t35 := Tryz.underlying22; have t36 := Tryz.underlying22
  have u3 := run_underlying Tryz.underlying3; have u4 := run_underlying Tryz.underlying4; have u35 := run_underlying Tryz.underlying22; have u36 := run_underlying Tryz.underlying22
  have hz := szFNamed
  have mixed := mixFNamed
  have hz2 : ¬ ((i : Int) = (n : Int)) := by omega
  have hin : i ≤ n := by omega
  obtain ⟨inf, hinf, hi2, hi40⟩ := infFNamed
  have hzz : inf.zero = some z := by rw [hinf] at hzv; simpa using hzv
  have hkk : (n : Int) + 1 - (i : Int) = ((n + 1 - i : Nat) : Int) := by omega
  have hold : (Builtin.firstCells inf.size i (.slice (some ⟨g, 0, none⟩) i n)).run Tryz.prog w.drew = .ok (cur.toList.take (i * 5)).toArray w.drew := by
    rw [hi2]
    exact run_firstCells_some w.drew 5 i ⟨g, 0, none⟩ i n (cur.toList.take (i * 5)) (by rw [List.length_take, Array.length_toList, hgs]; omega) (fun j v hj => by
      rw [List.getElem?_take] at hj
      split at hj
      · rw [Addr.add_lit, Nat.zero_add, cell_of_row w.drew g j cur 37 (0, 0) hg]
        simpa using hj
      · cases hj)
  have hrz : ∀ ty, (Builtin.append_ #[22, 3] ty #[.slice (some ⟨g, 0, none⟩) i n, .int .i64 ((n : Int) + 1 - (i : Int))]).run Tryz.prog w =
      .ok (.slice (some ⟨w.heap.size, 0, none⟩) (n + 1) G) (w.drew.alloc (.cells (insB0NamedNamed cur z.cells n i G) 37)) := fun ty => by
    have h := Lib.run_append_grow_zeros w 22 3 ty 37 inf z .i64 .i64 Tryz.underlying22 Tryz.underlying3 hinf hzz (some ⟨g, 0, none⟩) i n (cur.toList.take (i * 5)) hold (n + 1 - i) (by omega) (by omega) (by omega) (by omega) (by rw [hi40]; omega) (by rw [hi40, show i + (n + 1 - i) = n + 1 by omega]; exact growslice_fits (by omega) hbig)
    rw [show i + (n + 1 - i) = n + 1 by omega] at h
    rw [hkk, hG]
    exact h
  have hgw : g < w.heap.size := (Array.getElem?_eq_some_iff.1 hg).1
  have hvw : vb < w.heap.size := (Array.getElem?_eq_some_iff.1 hv).1
  have hcl : ((cur.toList.take (n * 5)).drop (i * 5)).length = (n - i) * 5 := by
    simp only [List.length_drop, List.length_take, Array.length_toList, hgs]
    omega
  have hGn : n + 1 ≤ G := by rw [hG]; exact grownCap_ge w _ _ _
  have hG63 : G ≤ 9223372036854775807 := by
    have := grownCap_le_maxLen w (n + 1) n 37 (by unfold maxLen; omega)
    rw [← hG] at this
    unfold maxLen at this
    omega
  obtain ⟨B0, hB0⟩ : ∃ B0, B0 = insB0NamedNamed cur z.cells n i G := ⟨_, rfl⟩
  have hBs : B0.size = G * 5 := by
    rw [hB0]
    unfold insB0NamedNamed
    simp only [Array.size_append, List.size_toArray, List.length_take, Array.length_toList, hgs, size_zeroCells, hzs]
    omega
  rw [← hB0] at hrz ⊢
  have hA0 : ∀ (W : World), W.heap = (w.drew.alloc (.cells B0 37)).heap → W.heap[w.heap.size]? = some (.cells B0 37 (0, 0)) ∧ W.heap[vb]? = some (.cells curv 37 (0, 0)) ∧ W.heap[g]? = some (.cells cur 37 (0, 0)) := fun W hW => by
    rw [hW]
    refine ⟨?_, ?_, ?_⟩
    · show (w.heap.push (.cells B0 37 (0, 0)))[w.heap.size]? = _
      rw [Array.getElem?_push, if_pos rfl]
    · show (w.heap.push (.cells B0 37 (0, 0)))[vb]? = _
      rw [Array.getElem?_push, if_neg (by omega)]
      exact hv
    · show (w.heap.push (.cells B0 37 (0, 0)))[g]? = _
      rw [Array.getElem?_push, if_neg (by omega)]
      exact hg
  have hcpA : ∀ (W : World), W.heap = (w.drew.alloc (.cells B0 37)).heap → ∀ ty dc, (Builtin.copy_ #[22, 22] ty #[.slice (some ⟨w.heap.size, i * 5, none⟩) (n + 1 - i) dc, .slice (some ⟨vb, 0, none⟩) 1 vc]).run Tryz.prog W = .ok (goInt 1) (W.setRow w.heap.size (insA2Named B0 (curv.toList.take 5) i)) := fun W hW ty dc => by
    obtain ⟨h1, h2, h3⟩ := hA0 W hW
    have hmin : Nat.min 1 (n + 1 - i) = 1 := by simp only [Nat.min_def]; split <;> omega
    have := Go.Vam.run_copy_sz (P := Tryz.prog) W 22 22 ty 37 inf w.heap.size (i * 5) (n + 1 - i) dc ⟨vb, 0, none⟩ 1 vc B0 37 (curv.toList.take 5) Tryz.underlying22 hinf h1 (by rw [hmin, hi2]; simp; omega)
      (fun j v hj => by
        rw [List.getElem?_take] at hj
        split at hj
        · rw [Addr.add_lit, Nat.zero_add, cell_of_row W vb j curv 37 (0, 0) h2]
          simpa using hj
        · cases hj)
      (by rw [hBs]; simp; omega) h1v
    rw [hmin] at this
    exact this
  obtain ⟨A2, hA2⟩ : ∃ A2, A2 = insA2Named B0 (curv.toList.take 5) i := ⟨_, rfl⟩
  have hAs : A2.size = G * 5 := by
    rw [hA2]
    unfold insA2Named Go.Vam.over
    simp only [List.size_toArray, List.length_append, List.length_take, List.length_drop, Array.length_toList, hBs, hvs]
    omega
  rw [← hA2] at hcpA ⊢
  have hcpB : ∀ (W : World), W.heap = ((w.drew.alloc (.cells B0 37)).setRow w.heap.size A2).heap → ∀ ty dc sc, (Builtin.copy_ #[22, 22] ty #[.slice (some ⟨w.heap.size, (i + 1) * 5, none⟩) (n - i) dc, .slice (some ⟨g, i * 5, none⟩) (n - i) sc]).run Tryz.prog W = .ok (goInt ((n - i : Nat) : Int)) (W.setRow w.heap.size (insB2Named A2 ((cur.toList.take (n * 5)).drop (i * 5)) n i)) := fun W hW ty dc sc => by
    have h1 : W.heap[w.heap.size]? = some (.cells A2 37 (0, 0)) := by
      rw [hW]
      exact setRow_heap _ _ _ _ 37 _ (hA0 _ rfl).1
    have h3 : W.heap[g]? = some (.cells cur 37 (0, 0)) := by
      rw [hW, setRow_other _ _ _ _ (by omega)]
      exact (hA0 _ rfl).2.2
    have hmin : Nat.min (n - i) (n - i) = n - i := by simp only [Nat.min_def]; split <;> omega
    have := Go.Vam.run_copy_sz (P := Tryz.prog) W 22 22 ty 37 inf w.heap.size ((i + 1) * 5) (n - i) dc ⟨g, i * 5, none⟩ (n - i) sc A2 37 ((cur.toList.take (n * 5)).drop (i * 5)) Tryz.underlying22 hinf h1 (by rw [hmin, hi2, hcl])
      (fun j v hj => by
        rw [List.getElem?_drop, List.getElem?_take] at hj
        split at hj
        · rw [Addr.add_lit, cell_of_row W g (i * 5 + j) cur 37 (0, 0) h3]
          simpa using hj
        · cases hj)
      (by rw [hcl, hAs]; omega) (fun v hv => h1c v (List.mem_of_mem_drop hv))
    rw [hmin] at this
    exact this
  have hw1 : IntKind.i64.wrap ((i : Int) + 1) = (i : Int) + 1 := by rw [IntKind.wrap_i64]; omega
  have hw2 : IntKind.i64.wrap ((n : Int) + 1 - (i : Int)) = (n : Int) + 1 - (i : Int) := by rw [IntKind.wrap_i64]; omega
  have hb1 : (0 : Int) ≤ (i : Int) + 1 := by omega
  have htn : ((i : Int) + 1).toNat = i + 1 := by omega
  have hb2 : ¬ (G = i + 1) := by omega
  have hb4 : ¬ (G = i) := by omega
  have hb5 : i ≤ n + 1 := by omega
  have hb6 : ¬ (n = i) := by omega
  have hcpA' : ∀ ty dc, (Builtin.copy_ #[22, 22] ty #[.slice (some ⟨w.heap.size, i * 5, none⟩) (n + 1 - i) dc, .slice (some ⟨vb, 0, none⟩) 1 vc]).run Tryz.prog (w.alloc (.cells B0 37)).drew = .ok (goInt 1) ((w.alloc (.cells B0 37)).drew.setRow w.heap.size A2) := fun ty dc => hcpA (w.alloc (.cells B0 37)).drew rfl ty dc
  have hcpB' : ∀ ty dc sc, (Builtin.copy_ #[22, 22] ty #[.slice (some ⟨w.heap.size, (i + 1) * 5, none⟩) (n - i) dc, .slice (some ⟨g, i * 5, none⟩) (n - i) sc]).run Tryz.prog (((w.alloc (.cells B0 37)).drew.setRow w.heap.size A2).drew) = .ok (goInt ((n - i : Nat) : Int)) ((((w.alloc (.cells B0 37)).drew.setRow w.heap.size A2).drew).setRow w.heap.size (insB2Named A2 ((cur.toList.take (n * 5)).drop (i * 5)) n i)) := fun ty dc sc => hcpB ((w.alloc (.cells B0 37)).drew.setRow w.heap.size A2).drew rfl ty dc sc
  clear hB0 hA2 hkk hold hG hBs hAs hA0 hinf hcpA hcpB
  go_enter Tryz.func49, Tryz.ntmps49
  go_wp2_with (first
    | (at_builtin; refine Lib.wpList_append_run _ rfl _ _ _ _ rfl _ _ rfl rfl _ _ (hrz _) ?_)
    | (at_builtin; refine wpList_copy_runI _ rfl _ _ 22 22 rfl _ _ rfl rfl (hcpA' _ _) ?_))
  go_region_law_o (refine step_copy_runI rfl _ _ 22 22 rfl (.slice (some ⟨w.heap.size, (i + 1) * 5, none⟩) (n - i) (G - (i + 1))) (.slice (some ⟨g, i * 5, none⟩) (n - i) (n - i)) (by simp [Act.eval, Act.put]) (by simp [Act.eval, Act.put]) (hcpB' 3 (G - (i + 1)) (n - i)) ?_)
  go_wp2
  go_ret
  exact ⟨rfl, 2, rfl⟩
set_option maxHeartbeats 4000000 in
set_option maxRecDepth 100000 in
theorem ent_insNamed : Go.Vam.Enters Tryz.prog 49 := fun vs w => by
  simp only [callFunc, Sem.run_bind, run_program, Result.andThen_ok, Tryz.func49, show (Tryz.f49.name == "runtime.NumGoroutine") = false by kernel_rfl, show Tryz.f49.body.isNone = false by kernel_rfl, Bool.false_eq_true, if_false, Sem.run_pure]
theorem zeroNamed : ∃ z : Value, (Tryz.prog.info? 37).bind (·.zero) = some z ∧ z.cells.size = 5 ∧ ∀ v ∈ z.cells.toList, v.oneCell' = true := by
  have h : ((Tryz.prog.info? 37).bind (·.zero)).map (fun z => (z.cells.size == 5) && z.cells.toList.all fun v => v.oneCell') = some true := by kernel_rfl
  cases hz : (Tryz.prog.info? 37).bind (·.zero) with
  | none => rw [hz] at h; simp at h
  | some z =>
    rw [hz] at h
    simp only [Option.map_some, Option.some.injEq, Bool.and_eq_true, beq_iff_eq, List.all_eq_true] at h
    exact ⟨z, rfl, h.1, h.2⟩
theorem insOkNamed : Go.Vam.InsOk Tryz.prog 49 37 5 80 := by
  refine ⟨ent_insNamed, fun base w v vv n i inner xs hown hown2 hne hi hby h1 h2 hbase => ?_⟩
  obtain ⟨vb, vc, curv, rfl, hvb, hv, hvc, hvcm, hvs, rfl⟩ := Go.Vam.own_some hown2 (by omega)
  obtain ⟨inf, hinf, hi2, hi40⟩ := infFNamed
  obtain ⟨z, hz, hzs, hz1⟩ := zeroNamed
  have hzz : inf.zero = some z := by rw [hinf] at hz; simpa using hz
  have hxl : (curv.toList.take (1 * 5)).length = 5 := by have := hown2.1; simpa using this
  have hvw : vb < w.heap.size := (Array.getElem?_eq_some_iff.1 hv).1
  have app : ∃ v' w', (Builtin.append_ #[22, 22] 22 #[v, .slice (some ⟨vb, 0, none⟩) 1 vc]).run Tryz.prog w = .ok v' w' ∧ w'.ownsRow base 37 5 v' (n + 1) (inner ++ curv.toList.take (1 * 5)) ∧
      ((w.grownBy w' none ∧ v'.ownBlock = some w.heap.size) ∨ (v'.ownBlock = v.ownBlock ∧ w.grownBy w' v.ownBlock)) := by
    obtain ⟨v', w', a1, a2, a3⟩ := Go.Vam.run_append_mine (P := Tryz.prog) (w := w) (base := base) 22 22 37 inf z Tryz.underlying22 hinf hzz (by rw [hzs, hi2]) v n inner (by rw [hi2]; exact hown) (some ⟨vb, 0, none⟩) 1 vc (curv.toList.take (1 * 5)) (by rw [hi2, hxl])
      (fun ad had j u hj => by
        rw [← Option.some.inj had]
        rw [List.getElem?_take] at hj
        split at hj
        · rw [Addr.add_lit, Nat.zero_add, cell_of_row w vb j curv 37 (0, 0) hv]
          simpa using hj
        · cases hj) (fun _ => rfl) h2 (by rw [hi40]; exact hby) (by omega) hbase
    rw [hi2] at a2 a3
    refine ⟨v', w', by rw [Go.Vam.append_types 22 22 22 37 37 Tryz.underlying22 Tryz.underlying22]; exact a1, a2, ?_⟩
    rcases a3 with h | ⟨h, h', _⟩
    · exact .inl h
    · exact .inr ⟨h, h'⟩
  have hil : inner.length = n * 5 := hown.1
  by_cases hin : i = n
  · subst hin
    obtain ⟨v', w', a1, a2, a3⟩ := app
    have he : inner.take (i * 5) ++ curv.toList.take (1 * 5) ++ inner.drop (i * 5) = inner ++ curv.toList.take (1 * 5) := by
      rw [List.take_of_length_le (by omega), List.drop_eq_nil_of_le (by omega), List.append_nil]
    rw [he]
    rcases hown.2 with ⟨rfl, rfl⟩ | ⟨g, cap, cur, rfl, hb, hg, hnc, hcm, hcs, htk⟩
    · refine (ins_nilNamed vb vc w w' v' a1).mono fun e w1 h => ?_
      obtain ⟨rfl, rfl⟩ := h
      exact ⟨v', rfl, a2, a3⟩
    · refine (ins_endNamed g i cap vb vc w w' v' (by unfold maxLen at hcm; omega) a1).mono fun e w1 h => ?_
      obtain ⟨rfl, rfl⟩ := h
      exact ⟨v', rfl, a2, a3⟩
  · have hlt : i < n := by omega
    obtain ⟨g, cap, cur, rfl, hb, hg, hnc, hcm, hcs, rfl⟩ := Go.Vam.own_some hown (by omega)
    have hvbg : vb ≠ g := fun e => hne g rfl (by simp [Value.ownBlock, e])
    have hgw : g < w.heap.size := (Array.getElem?_eq_some_iff.1 hg).1
    unfold maxLen at hcm
    by_cases hr : n + 1 ≤ cap
    · refine (ins_shiftNamed g n cap i vb vc w cur curv hlt hr (by omega) hg hcs hv hvs hvc hvbg h1 (by simpa using h2)).mono fun e w' h => ?_
      obtain ⟨rfl, rfl⟩ := h
      obtain ⟨s1, s2⟩ := Go.Vam.shift_list (sz := 5) (cur := cur) (xs := curv.toList.take (1 * 5)) hi hr hcs hxl
      have hd : (w.drew.setRow g (insA1Named cur n i)).heap[g]? = some (.cells (insA1Named cur n i) 37 (0, 0)) := setRow_heap w.drew g cur _ 37 _ hg
      refine ⟨_, rfl, ⟨?_, .inr ⟨g, cap, _, rfl, hb, setRow_heap _ g _ _ 37 _ hd, hr, by unfold maxLen; omega, s1, s2⟩⟩, .inr ⟨rfl, ?_⟩⟩
      · simp only [List.length_append, hxl, List.length_take, List.length_drop, Array.length_toList, hcs]
        have := Nat.mul_le_mul_right 5 hnc
        omega
      · have g1 := Go.Vam.grown_setRow (w := w.drew) (g := g) (A := insA1Named cur n i)
        have g2 := Go.Vam.grown_setRow (w := w.drew.setRow g (insA1Named cur n i)) (g := g) (A := insA2Named (insA1Named cur n i) (curv.toList.take 5) i)
        exact ⟨rfl, rfl, rfl, Nat.le_trans g1.size g2.size, fun k hk hk' => by rw [g2.block k (by simpa using hk) hk', g1.block k hk hk']; rfl⟩
    · have hcn : cap = n := by omega
      subst hcn
      obtain ⟨G, hG⟩ : ∃ G, G = grownCap w (cap + 1) cap 37 := ⟨_, rfl⟩
      have hGn : cap + 1 ≤ G := by rw [hG]; exact grownCap_ge w _ _ _
      have hGm : G ≤ maxLen := by rw [hG]; exact grownCap_le_maxLen w (cap + 1) cap 37 (by unfold maxLen; omega)
      refine (ins_growNamed g cap i vb vc w cur curv z hlt hby hg hcs hv hvs hvc hvbg h1 (by simpa using h2) hz hzs G hG).mono fun e w' h => ?_
      obtain ⟨rfl, d, rfl⟩ := h
      have hBs : (insB0NamedNamed cur z.cells cap i G).size = G * 5 := by
        unfold insB0NamedNamed
        simp only [Array.size_append, List.size_toArray, List.length_take, Array.length_toList, hcs, size_zeroCells, hzs]
        omega
      have hBk : ∀ k, k < i * 5 → (insB0NamedNamed cur z.cells cap i G).toList[k]? = cur.toList[k]? := fun k hk => by
        unfold insB0NamedNamed
        have hl : (cur.toList.take (i * 5)).length = i * 5 := by rw [List.length_take, Array.length_toList, hcs]; omega
        rw [Array.toList_append, Array.toList_append, List.append_assoc, List.getElem?_append_left (by simpa [hl] using hk)]
        simp [List.getElem?_take, hk]
      obtain ⟨s1, s2⟩ := Go.Vam.grow_list (sz := 5) (cur := cur) (xs := curv.toList.take (1 * 5)) hi hGn hcs hBs hBk hxl
      have hd0 : ((w.drewN d).alloc (.cells (insB0NamedNamed cur z.cells cap i G) 37)).heap[w.heap.size]? = some (.cells (insB0NamedNamed cur z.cells cap i G) 37 (0, 0)) := by
        show (w.heap.push (.cells (insB0NamedNamed cur z.cells cap i G) 37 (0, 0)))[w.heap.size]? = _
        rw [Array.getElem?_push, if_pos rfl]
      have hd1 := setRow_heap _ w.heap.size _ (insA2Named (insB0NamedNamed cur z.cells cap i G) (curv.toList.take 5) i) 37 _ hd0
      refine ⟨_, rfl, ⟨?_, .inr ⟨w.heap.size, G, _, rfl, hbase, setRow_heap _ _ _ _ 37 _ hd1, hGn, hGm, s1, s2⟩⟩, .inl ⟨?_, rfl⟩⟩
      · simp only [List.length_append, hxl, List.length_take, List.length_drop, Array.length_toList, hcs]
        omega
      · refine ⟨rfl, rfl, rfl, ?_, fun k hk _ => ?_⟩
        · simp [World.drewN]
        · rw [setRow_other _ _ _ _ (by omega), setRow_other _ _ _ _ (by omega)]
          show (w.heap.push _)[k]? = _
          rw [Array.getElem?_push, if_neg (by omega)]
end Go.Proofs.YthfogkmhgepgaaaGreat
