/- slices.Insert and slices.Delete of one thing: what they do to a list of one's own. -/
import Derived.Test.YtmfbcgheffdghaaGreatTt
import Derived.Test.YtmfbcgheffdghaaGreatG8
import Derived.WalkKit
import Derived.Lib.Walk
import Derived.Lib.SliceRun
import Derived.Lib.JoinLaws
import Derived.Lib.AppendZeros
import Derived.Lib.AppendZerosOnto
import Derived.Lib.Overlaps
import Derived.Laws.Externs
import Derived.Laws.IdiomCopy
import Derived.Shelf.Spec.SlicesInsert
namespace Go.Proofs.YtmfbcgheffdghaaGreat
open Go.RowKit Go.Lib
set_option linter.unusedVariables false
set_option linter.unusedSimpArgs false
theorem infFFile : ∃ i : TypeInfo, Tryz.prog.info? 53 = some i ∧ i.size = 2 ∧ i.bytes = 40 := by
  have h : (Tryz.prog.info? 53).map (fun i => (i.size, i.bytes)) = some (2, 40) := by kernel_rfl
  cases h1 : Tryz.prog.info? 53 with
  | none => rw [h1] at h; simp at h
  | some i =>
    rw [h1] at h
    simp only [Option.map_some, Option.some.injEq, Prod.mk.injEq] at h
    exact ⟨i, rfl, h.1, h.2⟩
theorem szFFile (w : World) : (Go.sizeOf 53).run Tryz.prog w = .ok 2 w := by
  obtain ⟨i, h, h1, _⟩ := infFFile
  simp [Go.sizeOf, typeInfo, h, h1]
theorem mixFFile : Tryz.prog.follows .mixedOrders = true := by kernel_rfl
def insA1File (cur : Array Value) (n i : Nat) : Array Value := Go.Vam.over cur ((i + 1) * 2) ((cur.toList.take (n * 2)).drop (i * 2))
def insA2File (cur : Array Value) (xs : List Value) (i : Nat) : Array Value := Go.Vam.over cur (i * 2) xs
def insB0FileFile (cur : Array Value) (z : Array Value) (n i G : Nat) : Array Value := ((cur.toList.take (i * 2)).toArray ++ Builtin.zeroCells z (n + 1 - i) ++ Builtin.zeroCells z (G - (n + 1)))
def insB2File (cur : Array Value) (row : List Value) (n i : Nat) : Array Value := Go.Vam.over cur ((i + 1) * 2) row
def delA1File (cur : Array Value) (n i : Nat) : Array Value := Go.Vam.over cur (i * 2) ((cur.toList.take (n * 2)).drop ((i + 1) * 2))
def delA2File (cur : Array Value) (zs : List Value) (n : Nat) : Array Value := Go.Vam.over cur ((n - 1) * 2) zs
set_option maxHeartbeats 4000000 in
set_option maxRecDepth 100000 in
theorem ins_shiftFile (g n c i vb vc : Nat) (w : World) (cur curv : Array Value) (hi : i < n) (hroom : n + 1 ≤ c) (hc63 : c ≤ 9223372036854775807) (hg : w.heap[g]? = some (.cells cur 53 (0, 0))) (hgs : cur.size = c * 2)
    (hv : w.heap[vb]? = some (.cells curv 53 (0, 0))) (hvs : curv.size = vc * 2) (hvc : 1 ≤ vc) (hvb : vb ≠ g) (h1c : ∀ v ∈ cur.toList.take (n * 2), v.oneCell' = true) (h1v : ∀ v ∈ curv.toList.take 2, v.oneCell' = true) :
    Calls Tryz.prog 126 #[.slice (some ⟨g, 0, none⟩) n c, .int .i64 i, .slice (some ⟨vb, 0, none⟩) 1 vc] w fun e w' => e = .returned (.slice (some ⟨g, 0, none⟩) (n + 1) c) ∧
      w' = (w.drew.setRow g (insA1File cur n i)).setRow g (insA2File (insA1File cur n i) (curv.toList.take 2) i) := by
  have t3 := Tryz.underlying3; have t4 := Tryz.underlying4; have t35 := Tryz.underlying39; have t36 := Tryz.underlying40
  have u3 := run_underlying Tryz.underlying3; have u4 := run_underlying Tryz.underlying4; have u35 := run_underlying Tryz.underlying39; have u36 := run_underlying Tryz.underlying40
  have hz := szFFile
  have mixed := mixFFile
  have hz2 : ¬ ((i : Int) = (n : Int)) := by omega
  have hin : i ≤ n := by omega
  have hov : ∀ o lb cb, (callFunc 136 #[.slice (some ⟨vb, 0, none⟩) 1 vc, .slice (some ⟨g, o, none⟩) lb cb]).run Tryz.prog w = .ok (.value (.bool false)) w := fun o lb cb => by
    rw [run_callFunc_extern Tryz.func136 (by kernel_rfl) (by kernel_rfl) (by kernel_rfl) (e := Extern.SlicesOverlaps.overlaps #[39, 39] #[4]) (by kernel_rfl),
      Lib.run_overlaps_apart w 39 4 53 Tryz.underlying39 2 szFFile ⟨vb, 0, none⟩ ⟨g, o, none⟩ 1 vc lb cb hvb 53 53 curv.size cur.size (by simp [World.shape?, hv]) (by simp [World.shape?, hg]) (by omega) (by simp [World.frozen?, hv]) (by simp [World.frozen?, hv])]
    rfl
  obtain ⟨inf, hinf, hi2, hi40⟩ := infFFile
  have hcl : ((cur.toList.take (n * 2)).drop (i * 2)).length = (n - i) * 2 := by
    simp only [List.length_drop, List.length_take, Array.length_toList, hgs]
    have : n * 2 ≤ c * 2 := by omega
    omega
  have hcp1 : ∀ ty dc sc, (Builtin.copy_ #[40, 40] ty #[.slice (some ⟨g, (i + 1) * 2, none⟩) (n - i) dc, .slice (some ⟨g, i * 2, none⟩) (n + 1 - i) sc]).run Tryz.prog w.drew = .ok (goInt ((n - i : Nat) : Int)) (w.drew.setRow g (insA1File cur n i)) := fun ty dc sc => by
    have hmin : Nat.min (n + 1 - i) (n - i) = n - i := by simp only [Nat.min_def]; split <;> omega
    have := Go.Vam.run_copy_sz (P := Tryz.prog) w.drew 40 40 ty 53 inf g ((i + 1) * 2) (n - i) dc ⟨g, i * 2, none⟩ (n + 1 - i) sc cur 53 ((cur.toList.take (n * 2)).drop (i * 2)) Tryz.underlying40 hinf hg (by rw [hmin, hi2, hcl])
      (fun j v hj => by
        rw [List.getElem?_drop, List.getElem?_take] at hj
        split at hj
        · rw [Addr.add_lit, cell_of_row w.drew g (i * 2 + j) cur 53 (0, 0) hg]
          simpa using hj
        · cases hj)
      (by rw [hcl, hgs]; omega) (fun v hv => h1c v (List.mem_of_mem_drop hv))
    rw [hmin] at this
    exact this
  obtain ⟨W1, hW1⟩ : ∃ W1, W1 = w.drew.setRow g (insA1File cur n i) := ⟨_, rfl⟩
  have hg1 : W1.heap[g]? = some (.cells (insA1File cur n i) 53 (0, 0)) := by rw [hW1]; exact setRow_heap w.drew g cur _ 53 _ hg
  have hs1 : (insA1File cur n i).size = c * 2 := by
    unfold insA1File Go.Vam.over
    simp only [List.size_toArray, List.length_append, List.length_take, List.length_drop, Array.length_toList, hgs]
    omega
  have hcp2 : ∀ ty dc, (Builtin.copy_ #[40, 39] ty #[.slice (some ⟨g, i * 2, none⟩) (n + 1 - i) dc, .slice (some ⟨vb, 0, none⟩) 1 vc]).run Tryz.prog W1 = .ok (goInt 1) (W1.setRow g (insA2File (insA1File cur n i) (curv.toList.take 2) i)) := fun ty dc => by
    have hmin : Nat.min 1 (n + 1 - i) = 1 := by simp only [Nat.min_def]; split <;> omega
    have := Go.Vam.run_copy_sz (P := Tryz.prog) W1 40 39 ty 53 inf g (i * 2) (n + 1 - i) dc ⟨vb, 0, none⟩ 1 vc (insA1File cur n i) 53 (curv.toList.take 2) Tryz.underlying40 hinf hg1 (by rw [hmin, hi2]; simp; omega)
      (fun j v hj => by
        rw [List.getElem?_take] at hj
        split at hj
        · rw [Addr.add_lit, Nat.zero_add, cell_of_row W1 vb j curv 53 (0, 0) (by rw [hW1]; rw [setRow_other _ _ _ _ hvb]; exact hv)]
          simpa using hj
        · cases hj)
      (by rw [hs1]; simp; omega) h1v
    rw [hmin] at this
    exact this
  subst hW1
  have hw1 : IntKind.i64.wrap ((i : Int) + 1) = (i : Int) + 1 := by rw [IntKind.wrap_i64]; omega
  have hb1 : (0 : Int) ≤ (i : Int) + 1 := by omega
  have htn : ((i : Int) + 1).toNat = i + 1 := by omega
  have hb2 : ¬ (c = i + 1) := by omega
  have hb3 : (i : Int) ≤ (n : Int) + 1 := by omega
  have hb4 : ¬ (c = i) := by omega
  have hb5 : i ≤ n + 1 := by omega
  go_enter Tryz.func126, Tryz.ntmps126
  go_wp2_with (simp only [hov])
  go_region_law_o (refine step_copy_runI rfl _ _ 40 40 rfl _ _ (by simp [Act.eval, Act.put]) (by simp [Act.eval, Act.put]) (hcp1 _ _ _) ?_)
  go_wp2_with (at_builtin; refine wpList_copy_runI _ rfl _ _ 40 39 rfl _ _ rfl rfl (hcp2 _ _) ?_)
  go_ret
  exact ⟨rfl, rfl⟩


set_option maxHeartbeats 4000000 in
set_option maxRecDepth 100000 in
theorem ins_endFile (g n c vb vc : Nat) (w w' : World) (v' : Value) (hc63 : n ≤ 9223372036854775807) 
    (hrun : (Builtin.append_ #[40, 39] 40 #[.slice (some ⟨g, 0, none⟩) n c, .slice (some ⟨vb, 0, none⟩) 1 vc]).run Tryz.prog w = .ok v' w') :
    Calls Tryz.prog 126 #[.slice (some ⟨g, 0, none⟩) n c, .int .i64 n, .slice (some ⟨vb, 0, none⟩) 1 vc] w fun e w1 => e = .returned v' ∧ w1 = w' := by
  have t3 := Tryz.underlying3; have t4 := Tryz.underlying4; have t35 := Tryz.underlying39; have t36 := Tryz.underlying40
  have u3 := run_underlying Tryz.underlying3; have u4 := run_underlying Tryz.underlying4; have u35 := run_underlying Tryz.underlying39; have u36 := run_underlying Tryz.underlying40
  have hz := szFFile
  have mixed := mixFFile
  go_enter Tryz.func126, Tryz.ntmps126
  go_wp2_with (at_builtin; refine Lib.wpList_append_run _ rfl _ _ _ _ rfl _ _ rfl rfl _ _ hrun ?_)
  all_goals (go_ret; exact ⟨rfl, rfl⟩)
set_option maxHeartbeats 4000000 in
set_option maxRecDepth 100000 in
theorem ins_nilFile (vb vc : Nat) (w w' : World) (v' : Value) 
    (hrun : (Builtin.append_ #[40, 39] 40 #[.slice none 0 0, .slice (some ⟨vb, 0, none⟩) 1 vc]).run Tryz.prog w = .ok v' w') :
    Calls Tryz.prog 126 #[.slice none 0 0, .int .i64 0, .slice (some ⟨vb, 0, none⟩) 1 vc] w fun e w1 => e = .returned v' ∧ w1 = w' := by
  have t3 := Tryz.underlying3; have t4 := Tryz.underlying4; have t35 := Tryz.underlying39; have t36 := Tryz.underlying40
  have u3 := run_underlying Tryz.underlying3; have u4 := run_underlying Tryz.underlying4; have u35 := run_underlying Tryz.underlying39; have u36 := run_underlying Tryz.underlying40
  have hz := szFFile
  have mixed := mixFFile
  go_enter Tryz.func126, Tryz.ntmps126
  go_wp2_with (at_builtin; refine Lib.wpList_append_run _ rfl _ _ _ _ rfl _ _ rfl rfl _ _ hrun ?_)
  go_ret
  exact ⟨rfl, rfl⟩
set_option maxHeartbeats 4000000 in
set_option maxRecDepth 100000 in
theorem ins_growFile (g n i vb vc : Nat) (w : World) (cur curv : Array Value) (z : Value) (hi : i < n) (hbig : (n + 1) * 40 ≤ 140737488355328) (hg : w.heap[g]? = some (.cells cur 53 (0, 0))) (hgs : cur.size = n * 2)
    (hv : w.heap[vb]? = some (.cells curv 53 (0, 0))) (hvs : curv.size = vc * 2) (hvc : 1 ≤ vc) (hvb : vb ≠ g) (h1c : ∀ v ∈ cur.toList.take (n * 2), v.oneCell' = true) (h1v : ∀ v ∈ curv.toList.take 2, v.oneCell' = true)
    (hzv : (Tryz.prog.info? 53).bind (·.zero) = some z) (hzs : z.cells.size = 2) (G : Nat) (hG : G = grownCap w (n + 1) n 53) :
    Calls Tryz.prog 126 #[.slice (some ⟨g, 0, none⟩) n n, .int .i64 i, .slice (some ⟨vb, 0, none⟩) 1 vc] w fun e w' => e = .returned (.slice (some ⟨w.heap.size, 0, none⟩) (n + 1) G) ∧
      ∃ d, w' = (((w.drewN d).alloc (.cells (insB0FileFile cur z.cells n i G) 53)).setRow w.heap.size (insA2File (insB0FileFile cur z.cells n i G) (curv.toList.take 2) i)).setRow w.heap.size (insB2File (insA2File (insB0FileFile cur z.cells n i G) (curv.toList.take 2) i) ((cur.toList.take (n * 2)).drop (i * 2)) n i) := by
  have t3 := Tryz.underlying3; have t4 := Tryz.underlying4; have t35 := Tryz.underlying39; have t36 := Tryz.underlying40
  have u3 := run_underlying Tryz.underlying3; have u4 := run_underlying Tryz.underlying4; have u35 := run_underlying Tryz.underlying39; have u36 := run_underlying Tryz.underlying40
  have hz := szFFile
  have mixed := mixFFile
  have hz2 : ¬ ((i : Int) = (n : Int)) := by omega
  have hin : i ≤ n := by omega
  obtain ⟨inf, hinf, hi2, hi40⟩ := infFFile
  have hzz : inf.zero = some z := by rw [hinf] at hzv; simpa using hzv
  have hkk : (n : Int) + 1 - (i : Int) = ((n + 1 - i : Nat) : Int) := by omega
  have hold : (Builtin.firstCells inf.size i (.slice (some ⟨g, 0, none⟩) i n)).run Tryz.prog w.drew = .ok (cur.toList.take (i * 2)).toArray w.drew := by
    rw [hi2]
    exact run_firstCells_some w.drew 2 i ⟨g, 0, none⟩ i n (cur.toList.take (i * 2)) (by rw [List.length_take, Array.length_toList, hgs]; omega) (fun j v hj => by
      rw [List.getElem?_take] at hj
      split at hj
      · rw [Addr.add_lit, Nat.zero_add, cell_of_row w.drew g j cur 53 (0, 0) hg]
        simpa using hj
      · cases hj)
  have hrz : ∀ ty, (Builtin.append_ #[40, 3] ty #[.slice (some ⟨g, 0, none⟩) i n, .int .i64 ((n : Int) + 1 - (i : Int))]).run Tryz.prog w =
      .ok (.slice (some ⟨w.heap.size, 0, none⟩) (n + 1) G) (w.drew.alloc (.cells (insB0FileFile cur z.cells n i G) 53)) := fun ty => by
    have h := Lib.run_append_grow_zeros w 40 3 ty 53 inf z .i64 .i64 Tryz.underlying40 Tryz.underlying3 hinf hzz (some ⟨g, 0, none⟩) i n (cur.toList.take (i * 2)) hold (n + 1 - i) (by omega) (by omega) (by omega) (by omega) (by rw [hi40]; omega) (by rw [hi40, show i + (n + 1 - i) = n + 1 by omega]; exact growslice_fits (by omega) hbig)
    rw [show i + (n + 1 - i) = n + 1 by omega] at h
    rw [hkk, hG]
    exact h
  have hgw : g < w.heap.size := (Array.getElem?_eq_some_iff.1 hg).1
  have hvw : vb < w.heap.size := (Array.getElem?_eq_some_iff.1 hv).1
  have hcl : ((cur.toList.take (n * 2)).drop (i * 2)).length = (n - i) * 2 := by
    simp only [List.length_drop, List.length_take, Array.length_toList, hgs]
    omega
  have hGn : n + 1 ≤ G := by rw [hG]; exact grownCap_ge w _ _ _
  have hG63 : G ≤ 9223372036854775807 := by
    have := grownCap_le_maxLen w (n + 1) n 53 (by unfold maxLen; omega)
    rw [← hG] at this
    unfold maxLen at this
    omega
  obtain ⟨B0, hB0⟩ : ∃ B0, B0 = insB0FileFile cur z.cells n i G := ⟨_, rfl⟩
  have hBs : B0.size = G * 2 := by
    rw [hB0]
    unfold insB0FileFile
    simp only [Array.size_append, List.size_toArray, List.length_take, Array.length_toList, hgs, size_zeroCells, hzs]
    omega
  rw [← hB0] at hrz ⊢
  have hA0 : ∀ (W : World), W.heap = (w.drew.alloc (.cells B0 53)).heap → W.heap[w.heap.size]? = some (.cells B0 53 (0, 0)) ∧ W.heap[vb]? = some (.cells curv 53 (0, 0)) ∧ W.heap[g]? = some (.cells cur 53 (0, 0)) := fun W hW => by
    rw [hW]
    refine ⟨?_, ?_, ?_⟩
    · show (w.heap.push (.cells B0 53 (0, 0)))[w.heap.size]? = _
      rw [Array.getElem?_push, if_pos rfl]
    · show (w.heap.push (.cells B0 53 (0, 0)))[vb]? = _
      rw [Array.getElem?_push, if_neg (by omega)]
      exact hv
    · show (w.heap.push (.cells B0 53 (0, 0)))[g]? = _
      rw [Array.getElem?_push, if_neg (by omega)]
      exact hg
  have hcpA : ∀ (W : World), W.heap = (w.drew.alloc (.cells B0 53)).heap → ∀ ty dc, (Builtin.copy_ #[40, 39] ty #[.slice (some ⟨w.heap.size, i * 2, none⟩) (n + 1 - i) dc, .slice (some ⟨vb, 0, none⟩) 1 vc]).run Tryz.prog W = .ok (goInt 1) (W.setRow w.heap.size (insA2File B0 (curv.toList.take 2) i)) := fun W hW ty dc => by
    obtain ⟨h1, h2, h3⟩ := hA0 W hW
    have hmin : Nat.min 1 (n + 1 - i) = 1 := by simp only [Nat.min_def]; split <;> omega
    have := Go.Vam.run_copy_sz (P := Tryz.prog) W 40 39 ty 53 inf w.heap.size (i * 2) (n + 1 - i) dc ⟨vb, 0, none⟩ 1 vc B0 53 (curv.toList.take 2) Tryz.underlying40 hinf h1 (by rw [hmin, hi2]; simp; omega)
      (fun j v hj => by
        rw [List.getElem?_take] at hj
        split at hj
        · rw [Addr.add_lit, Nat.zero_add, cell_of_row W vb j curv 53 (0, 0) h2]
          simpa using hj
        · cases hj)
      (by rw [hBs]; simp; omega) h1v
    rw [hmin] at this
    exact this
  obtain ⟨A2, hA2⟩ : ∃ A2, A2 = insA2File B0 (curv.toList.take 2) i := ⟨_, rfl⟩
  have hAs : A2.size = G * 2 := by
    rw [hA2]
    unfold insA2File Go.Vam.over
    simp only [List.size_toArray, List.length_append, List.length_take, List.length_drop, Array.length_toList, hBs, hvs]
    omega
  rw [← hA2] at hcpA ⊢
  have hcpB : ∀ (W : World), W.heap = ((w.drew.alloc (.cells B0 53)).setRow w.heap.size A2).heap → ∀ ty dc sc, (Builtin.copy_ #[40, 40] ty #[.slice (some ⟨w.heap.size, (i + 1) * 2, none⟩) (n - i) dc, .slice (some ⟨g, i * 2, none⟩) (n - i) sc]).run Tryz.prog W = .ok (goInt ((n - i : Nat) : Int)) (W.setRow w.heap.size (insB2File A2 ((cur.toList.take (n * 2)).drop (i * 2)) n i)) := fun W hW ty dc sc => by
    have h1 : W.heap[w.heap.size]? = some (.cells A2 53 (0, 0)) := by
      rw [hW]
      exact setRow_heap _ _ _ _ 53 _ (hA0 _ rfl).1
    have h3 : W.heap[g]? = some (.cells cur 53 (0, 0)) := by
      rw [hW, setRow_other _ _ _ _ (by omega)]
      exact (hA0 _ rfl).2.2
    have hmin : Nat.min (n - i) (n - i) = n - i := by simp only [Nat.min_def]; split <;> omega
    have := Go.Vam.run_copy_sz (P := Tryz.prog) W 40 40 ty 53 inf w.heap.size ((i + 1) * 2) (n - i) dc ⟨g, i * 2, none⟩ (n - i) sc A2 53 ((cur.toList.take (n * 2)).drop (i * 2)) Tryz.underlying40 hinf h1 (by rw [hmin, hi2, hcl])
      (fun j v hj => by
        rw [List.getElem?_drop, List.getElem?_take] at hj
        split at hj
        · rw [Addr.add_lit, cell_of_row W g (i * 2 + j) cur 53 (0, 0) h3]
          simpa using hj
        · cases hj)
      (by rw [hcl, hAs]; omega) (fun v hv => h1c v (List.mem_of_mem_drop hv))
    rw [hmin] at this
    exact this
  have hw1 : IntKind.i64.wrap ((i : Int) + 1) = (i : Int) + 1 := by rw [IntKind.wrap_i64]; omega
  have hw2 : IntKind.i64.wrap ((n : Int) + 1 - (i : Int)) = (n : Int) + 1 - (i : Int) := by rw [IntKind.wrap_i64]; omega
  have hb1 : (0 : Int) ≤ (i : Int) + 1 := by omega
  have htn : ((i : Int) + 1).toNat = i + 1 := by omega
  have hb2 : ¬ (G = i + 1) := by omega
  have hb4 : ¬ (G = i) := by omega
  have hb5 : i ≤ n + 1 := by omega
  have hb6 : ¬ (n = i) := by omega
  have hcpA' : ∀ ty dc, (Builtin.copy_ #[40, 39] ty #[.slice (some ⟨w.heap.size, i * 2, none⟩) (n + 1 - i) dc, .slice (some ⟨vb, 0, none⟩) 1 vc]).run Tryz.prog (w.alloc (.cells B0 53)).drew = .ok (goInt 1) ((w.alloc (.cells B0 53)).drew.setRow w.heap.size A2) := fun ty dc => hcpA (w.alloc (.cells B0 53)).drew rfl ty dc
  have hcpB' : ∀ ty dc sc, (Builtin.copy_ #[40, 40] ty #[.slice (some ⟨w.heap.size, (i + 1) * 2, none⟩) (n - i) dc, .slice (some ⟨g, i * 2, none⟩) (n - i) sc]).run Tryz.prog (((w.alloc (.cells B0 53)).drew.setRow w.heap.size A2).drew) = .ok (goInt ((n - i : Nat) : Int)) ((((w.alloc (.cells B0 53)).drew.setRow w.heap.size A2).drew).setRow w.heap.size (insB2File A2 ((cur.toList.take (n * 2)).drop (i * 2)) n i)) := fun ty dc sc => hcpB ((w.alloc (.cells B0 53)).drew.setRow w.heap.size A2).drew rfl ty dc sc
  clear hB0 hA2 hkk hold hG hBs hAs hA0 hinf hcpA hcpB
  go_enter Tryz.func126, Tryz.ntmps126
  go_wp2_with (first
    | (at_builtin; refine Lib.wpList_append_run _ rfl _ _ _ _ rfl _ _ rfl rfl _ _ (hrz _) ?_)
    | (at_builtin; refine wpList_copy_runI _ rfl _ _ 40 39 rfl _ _ rfl rfl (hcpA' _ _) ?_))
  go_region_law_o (refine step_copy_runI rfl _ _ 40 40 rfl (.slice (some ⟨w.heap.size, (i + 1) * 2, none⟩) (n - i) (G - (i + 1))) (.slice (some ⟨g, i * 2, none⟩) (n - i) (n - i)) (by simp [Act.eval, Act.put]) (by simp [Act.eval, Act.put]) (hcpB' 3 (G - (i + 1)) (n - i)) ?_)
  go_wp2
  go_ret
  exact ⟨rfl, 2, rfl⟩
set_option maxHeartbeats 4000000 in
set_option maxRecDepth 100000 in
theorem del_walkFile (g m c i : Nat) (w : World) (cur : Array Value) (zs : List Value) (hi : i ≤ m) (hnc : m + 1 ≤ c) (hc63 : c ≤ 9223372036854775807) (hg : w.heap[g]? = some (.cells cur 53 (0, 0))) (hgs : cur.size = c * 2)
    (h1c : ∀ v ∈ cur.toList.take ((m + 1) * 2), v.oneCell' = true) (hzs : ∀ w ty, (Builtin.clear_ #[40] ty #[.slice (some ⟨g, m * 2, none⟩) 1 (c - m)]).run Tryz.prog w = (storeCells ⟨g, m * 2, none⟩ zs >>= fun _ => pure (Value.tuple #[])).run Tryz.prog w) (hzl : zs.length = 2) (hz1 : ∀ v ∈ zs, v.oneCell' = true) :
    Calls Tryz.prog 129 #[.slice (some ⟨g, 0, none⟩) (m + 1) c, .int .i64 i, .int .i64 ((i : Int) + 1)] w fun e w' => e = .returned (.slice (some ⟨g, 0, none⟩) m c) ∧
      ∃ d, w' = ((w.drewN d).setRow g (delA1File cur (m + 1) i)).setRow g (delA2File (delA1File cur (m + 1) i) zs (m + 1)) := by
  have t3 := Tryz.underlying3; have t4 := Tryz.underlying4; have t36 := Tryz.underlying40
  have u3 := run_underlying Tryz.underlying3; have u4 := run_underlying Tryz.underlying4; have u36 := run_underlying Tryz.underlying40
  have hz := szFFile
  have mixed := mixFFile
  have hz2 : ¬ ((i : Int) = (i : Int) + 1) := by omega
  have hin : i ≤ m + 1 := by omega
  obtain ⟨inf, hinf, hi2, hi40⟩ := infFFile
  have hcl : ((cur.toList.take ((m + 1) * 2)).drop ((i + 1) * 2)).length = (m - i) * 2 := by
    simp only [List.length_drop, List.length_take, Array.length_toList, hgs]
    have : (m + 1) * 2 ≤ c * 2 := by omega
    omega
  have hrun : ∀ (ao : Nat) (sc ty : Nat), (ao = (i + 1) * 2 ∨ m = i) → (Builtin.append_ #[40, 40] ty #[.slice (some ⟨g, 0, none⟩) i c, .slice (some ⟨g, ao, none⟩) (m - i) sc]).run Tryz.prog w.drew = .ok (.slice (some ⟨g, 0, none⟩) m c) (w.drew.setRow g (delA1File cur (m + 1) i)) := fun ao sc ty hao => by
    have := run_append_room (P := Tryz.prog) (w := w.drew) 40 ty 53 inf Tryz.underlying40 hinf g i c cur hg ⟨g, ao, none⟩ (m - i) sc ((cur.toList.take ((m + 1) * 2)).drop ((i + 1) * 2)) (by rw [hcl, hi2])
      (fun j v hj => by
        rw [List.getElem?_drop, List.getElem?_take] at hj
        split at hj
        · rcases hao with rfl | hao
          · rw [Addr.add_lit, cell_of_row w.drew g _ cur 53 (0, 0) hg]
            simpa using hj
          · omega
        · cases hj)
      (fun v hv => h1c v (List.mem_of_mem_drop hv)) (by omega) (by rw [hi2, hcl, hgs]; omega)
    rw [show i + (m - i) = m by omega, hi2] at this
    exact this
  have hds : (delA1File cur (m + 1) i).size = c * 2 := by
    unfold delA1File Go.Vam.over
    simp only [List.size_toArray, List.length_append, List.length_take, List.length_drop, Array.length_toList, hgs]
    omega
  have hg1 : (w.drew.setRow g (delA1File cur (m + 1) i)).heap[g]? = some (.cells (delA1File cur (m + 1) i) 53 (0, 0)) := setRow_heap w.drew g cur _ 53 _ hg
  have hclr : ∀ ty, (Builtin.clear_ #[40] ty #[.slice (some ⟨g, m * 2, none⟩) 1 (c - m)]).run Tryz.prog (w.drew.setRow g (delA1File cur (m + 1) i)) = .ok (.tuple #[]) ((w.drew.setRow g (delA1File cur (m + 1) i)).setRow g (delA2File (delA1File cur (m + 1) i) zs (m + 1))) := fun ty => by
    have hst := run_storeCells_at Tryz.prog g (m * 2) 53 zs 0 (delA1File cur (m + 1) i) _ hg1 (by rw [hds, hzl]; omega) hz1
    rw [hzs]
    simp only [Nat.add_zero] at hst
    simp only [Sem.run_bind, hst, Result.andThen_ok, Sem.run_pure]
    rfl
  have hw1 : IntKind.i64.wrap ((i : Int) + 1) = (i : Int) + 1 := by rw [IntKind.wrap_i64]; omega
  have hb1 : (0 : Int) ≤ (i : Int) + 1 := by omega
  have htn : ((i : Int) + 1).toNat = i + 1 := by omega
  have hb3 : i + 1 ≤ c := by omega
  have hb5 : ¬ (c = m) := by omega
  have hb6 : i ≤ c := by omega
  have hb7 : m ≤ c := by omega
  by_cases hci : c = i + 1
  · have hmi : m = i := by omega
    subst hmi
    subst hci
    have hrun' : (Builtin.append_ #[40, 40] 40 #[.slice (some ⟨g, 0, none⟩) m (m + 1), .slice (some ⟨g, 0, none⟩) 0 0]).run Tryz.prog w.drew = .ok (.slice (some ⟨g, 0, none⟩) m (m + 1)) (w.drew.setRow g (delA1File cur (m + 1) m)) := by
      have := hrun 0 0 40 (.inr rfl)
      rw [Nat.sub_self] at this
      exact this
    have hb8 : (m : Int) ≤ (m : Int) + 1 := by omega
    rw [show m + 1 - m = 1 by omega] at hclr
    clear hg1 hds hcl hinf hzs hrun
    go_enter Tryz.func129, Tryz.ntmps129
    go_wp2
    go_region_law_o (refine Go.Vam.step_append_runI rfl (.tmp 22) (.tmp 25) 40 40 rfl (.slice (some ⟨g, 0, none⟩) m (m + 1)) (.slice (some ⟨g, 0, none⟩) 0 0) (by simp [Act.eval, Act.put]) (by simp [Act.eval, Act.put]) hrun' ?_)
    go_wp2_with (at_builtin; refine Go.Vam.wpList_clear_runI _ rfl _ 40 rfl _ rfl (hclr _) ?_)
    go_ret
    exact ⟨rfl, 1, rfl⟩
  · have hrun' := hrun ((i + 1) * 2) (c - (i + 1)) 40 (.inl rfl)
    clear hg1 hds hcl hinf hzs hrun
    go_enter Tryz.func129, Tryz.ntmps129
    go_wp2
    go_region_law_o (refine Go.Vam.step_append_runI rfl (.tmp 22) (.tmp 25) 40 40 rfl (.slice (some ⟨g, 0, none⟩) i c) (.slice (some ⟨g, (i + 1) * 2, none⟩) (m - i) (c - (i + 1))) (by simp [Act.eval, Act.put]) (by simp [Act.eval, Act.put]) hrun' ?_)
    go_wp2_with (at_builtin; refine Go.Vam.wpList_clear_runI _ rfl _ 40 rfl _ rfl (hclr _) ?_)
    go_ret
    exact ⟨rfl, 1, rfl⟩

theorem ent_insFile : Go.Vam.Enters Tryz.prog 126 := fun vs w => by
  simp only [callFunc, Sem.run_bind, run_program, Result.andThen_ok, Tryz.func126, show (Tryz.f126.name == "runtime.NumGoroutine") = false by kernel_rfl, show Tryz.f126.body.isNone = false by kernel_rfl, Bool.false_eq_true, if_false, Sem.run_pure]
theorem ent_delFile : Go.Vam.Enters Tryz.prog 129 := fun vs w => by
  simp only [callFunc, Sem.run_bind, run_program, Result.andThen_ok, Tryz.func129, show (Tryz.f129.name == "runtime.NumGoroutine") = false by kernel_rfl, show Tryz.f129.body.isNone = false by kernel_rfl, Bool.false_eq_true, if_false, Sem.run_pure]
theorem zeroFile : ∃ z : Value, (Tryz.prog.info? 53).bind (·.zero) = some z ∧ z.cells.size = 2 ∧ ∀ v ∈ z.cells.toList, v.oneCell' = true := by
  have h : ((Tryz.prog.info? 53).bind (·.zero)).map (fun z => (z.cells.size == 2) && z.cells.toList.all fun v => v.oneCell') = some true := by kernel_rfl
  cases hz : (Tryz.prog.info? 53).bind (·.zero) with
  | none => rw [hz] at h; simp at h
  | some z =>
    rw [hz] at h
    simp only [Option.map_some, Option.some.injEq, Bool.and_eq_true, beq_iff_eq, List.all_eq_true] at h
    exact ⟨z, rfl, h.1, h.2⟩
theorem insOkFile : Go.Vam.InsOk Tryz.prog 126 53 2 40 := by
  refine ⟨ent_insFile, fun base w v vv n i inner xs hown hown2 hne hi hby h1 h2 hbase => ?_⟩
  obtain ⟨vb, vc, curv, rfl, hvb, hv, hvc, hvcm, hvs, rfl⟩ := Go.Vam.own_some hown2 (by omega)
  obtain ⟨inf, hinf, hi2, hi40⟩ := infFFile
  obtain ⟨z, hz, hzs, hz1⟩ := zeroFile
  have hzz : inf.zero = some z := by rw [hinf] at hz; simpa using hz
  have hxl : (curv.toList.take (1 * 2)).length = 2 := by have := hown2.1; simpa using this
  have hvw : vb < w.heap.size := (Array.getElem?_eq_some_iff.1 hv).1
  have app : ∃ v' w', (Builtin.append_ #[40, 39] 40 #[v, .slice (some ⟨vb, 0, none⟩) 1 vc]).run Tryz.prog w = .ok v' w' ∧ w'.ownsRow base 53 2 v' (n + 1) (inner ++ curv.toList.take (1 * 2)) ∧
      ((w.grownBy w' none ∧ v'.ownBlock = some w.heap.size) ∨ (v'.ownBlock = v.ownBlock ∧ w.grownBy w' v.ownBlock)) := by
    obtain ⟨v', w', a1, a2, a3⟩ := Go.Vam.run_append_mine (P := Tryz.prog) (w := w) (base := base) 40 40 53 inf z Tryz.underlying40 hinf hzz (by rw [hzs, hi2]) v n inner (by rw [hi2]; exact hown) (some ⟨vb, 0, none⟩) 1 vc (curv.toList.take (1 * 2)) (by rw [hi2, hxl])
      (fun ad had j u hj => by
        rw [← Option.some.inj had]
        rw [List.getElem?_take] at hj
        split at hj
        · rw [Addr.add_lit, Nat.zero_add, cell_of_row w vb j curv 53 (0, 0) hv]
          simpa using hj
        · cases hj) (fun _ => rfl) h2 (by rw [hi40]; exact hby) (by omega) hbase
    rw [hi2] at a2 a3
    refine ⟨v', w', by rw [Go.Vam.append_types 40 39 40 53 53 Tryz.underlying40 Tryz.underlying39]; exact a1, a2, ?_⟩
    rcases a3 with h | ⟨h, h', _⟩
    · exact .inl h
    · exact .inr ⟨h, h'⟩
  have hil : inner.length = n * 2 := hown.1
  by_cases hin : i = n
  · subst hin
    obtain ⟨v', w', a1, a2, a3⟩ := app
    have he : inner.take (i * 2) ++ curv.toList.take (1 * 2) ++ inner.drop (i * 2) = inner ++ curv.toList.take (1 * 2) := by
      rw [List.take_of_length_le (by omega), List.drop_eq_nil_of_le (by omega), List.append_nil]
    rw [he]
    rcases hown.2 with ⟨rfl, rfl⟩ | ⟨g, cap, cur, rfl, hb, hg, hnc, hcm, hcs, htk⟩
    · refine (ins_nilFile vb vc w w' v' a1).mono fun e w1 h => ?_
      obtain ⟨rfl, rfl⟩ := h
      exact ⟨v', rfl, a2, a3⟩
    · refine (ins_endFile g i cap vb vc w w' v' (by unfold maxLen at hcm; omega) a1).mono fun e w1 h => ?_
      obtain ⟨rfl, rfl⟩ := h
      exact ⟨v', rfl, a2, a3⟩
  · have hlt : i < n := by omega
    obtain ⟨g, cap, cur, rfl, hb, hg, hnc, hcm, hcs, rfl⟩ := Go.Vam.own_some hown (by omega)
    have hvbg : vb ≠ g := fun e => hne g rfl (by simp [Value.ownBlock, e])
    have hgw : g < w.heap.size := (Array.getElem?_eq_some_iff.1 hg).1
    unfold maxLen at hcm
    by_cases hr : n + 1 ≤ cap
    · refine (ins_shiftFile g n cap i vb vc w cur curv hlt hr (by omega) hg hcs hv hvs hvc hvbg h1 (by simpa using h2)).mono fun e w' h => ?_
      obtain ⟨rfl, rfl⟩ := h
      obtain ⟨s1, s2⟩ := Go.Vam.shift_list (sz := 2) (cur := cur) (xs := curv.toList.take (1 * 2)) hi hr hcs hxl
      have hd : (w.drew.setRow g (insA1File cur n i)).heap[g]? = some (.cells (insA1File cur n i) 53 (0, 0)) := setRow_heap w.drew g cur _ 53 _ hg
      refine ⟨_, rfl, ⟨?_, .inr ⟨g, cap, _, rfl, hb, setRow_heap _ g _ _ 53 _ hd, hr, by unfold maxLen; omega, s1, s2⟩⟩, .inr ⟨rfl, ?_⟩⟩
      · simp only [List.length_append, hxl, List.length_take, List.length_drop, Array.length_toList, hcs]
        have := Nat.mul_le_mul_right 2 hnc
        omega
      · have g1 := Go.Vam.grown_setRow (w := w.drew) (g := g) (A := insA1File cur n i)
        have g2 := Go.Vam.grown_setRow (w := w.drew.setRow g (insA1File cur n i)) (g := g) (A := insA2File (insA1File cur n i) (curv.toList.take 2) i)
        exact ⟨rfl, rfl, rfl, Nat.le_trans g1.size g2.size, fun k hk hk' => by rw [g2.block k (by simpa using hk) hk', g1.block k hk hk']; rfl⟩
    · have hcn : cap = n := by omega
      subst hcn
      obtain ⟨G, hG⟩ : ∃ G, G = grownCap w (cap + 1) cap 53 := ⟨_, rfl⟩
      have hGn : cap + 1 ≤ G := by rw [hG]; exact grownCap_ge w _ _ _
      have hGm : G ≤ maxLen := by rw [hG]; exact grownCap_le_maxLen w (cap + 1) cap 53 (by unfold maxLen; omega)
      refine (ins_growFile g cap i vb vc w cur curv z hlt hby hg hcs hv hvs hvc hvbg h1 (by simpa using h2) hz hzs G hG).mono fun e w' h => ?_
      obtain ⟨rfl, d, rfl⟩ := h
      have hBs : (insB0FileFile cur z.cells cap i G).size = G * 2 := by
        unfold insB0FileFile
        simp only [Array.size_append, List.size_toArray, List.length_take, Array.length_toList, hcs, size_zeroCells, hzs]
        omega
      have hBk : ∀ k, k < i * 2 → (insB0FileFile cur z.cells cap i G).toList[k]? = cur.toList[k]? := fun k hk => by
        unfold insB0FileFile
        have hl : (cur.toList.take (i * 2)).length = i * 2 := by rw [List.length_take, Array.length_toList, hcs]; omega
        rw [Array.toList_append, Array.toList_append, List.append_assoc, List.getElem?_append_left (by simpa [hl] using hk)]
        simp [List.getElem?_take, hk]
      obtain ⟨s1, s2⟩ := Go.Vam.grow_list (sz := 2) (cur := cur) (xs := curv.toList.take (1 * 2)) hi hGn hcs hBs hBk hxl
      have hd0 : ((w.drewN d).alloc (.cells (insB0FileFile cur z.cells cap i G) 53)).heap[w.heap.size]? = some (.cells (insB0FileFile cur z.cells cap i G) 53 (0, 0)) := by
        show (w.heap.push (.cells (insB0FileFile cur z.cells cap i G) 53 (0, 0)))[w.heap.size]? = _
        rw [Array.getElem?_push, if_pos rfl]
      have hd1 := setRow_heap _ w.heap.size _ (insA2File (insB0FileFile cur z.cells cap i G) (curv.toList.take 2) i) 53 _ hd0
      refine ⟨_, rfl, ⟨?_, .inr ⟨w.heap.size, G, _, rfl, hbase, setRow_heap _ _ _ _ 53 _ hd1, hGn, hGm, s1, s2⟩⟩, .inl ⟨?_, rfl⟩⟩
      · simp only [List.length_append, hxl, List.length_take, List.length_drop, Array.length_toList, hcs]
        omega
      · refine ⟨rfl, rfl, rfl, ?_, fun k hk _ => ?_⟩
        · simp [World.drewN]
        · rw [setRow_other _ _ _ _ (by omega), setRow_other _ _ _ _ (by omega)]
          show (w.heap.push _)[k]? = _
          rw [Array.getElem?_push, if_neg (by omega)]
theorem delOkFile : Go.Vam.DelOk Tryz.prog 129 53 2 := by
  refine ⟨ent_delFile, fun base w v n i inner hown hi h1 hbase => ?_⟩
  obtain ⟨g, cap, cur, rfl, hb, hg, hnc, hcm, hcs, rfl⟩ := Go.Vam.own_some hown (by omega)
  obtain ⟨m, rfl⟩ : ∃ m, n = m + 1 := ⟨n - 1, by omega⟩
  obtain ⟨inf, hinf, hi2, hi40⟩ := infFFile
  obtain ⟨z, hz, hzs, hz1⟩ := zeroFile
  have hzz : inf.zero = some z := by rw [hinf] at hz; simpa using hz
  have hzv : ∀ w, (zeroValue 53).run Tryz.prog w = .ok z w := fun w => by simp [zeroValue, typeInfo, hinf, hzz]
  have hzl : (Builtin.zeroCells z.cells 1).toList.length = 2 := by rw [Array.length_toList, size_zeroCells, hzs]
  have hzo : ∀ v ∈ (Builtin.zeroCells z.cells 1).toList, v.oneCell' = true := fun v hv => by
    simp only [Builtin.zeroCells, Array.toList_map, Array.toList_range, Nat.one_mul, List.mem_map, List.mem_range] at hv
    obtain ⟨k, hk, rfl⟩ := hv
    rw [Nat.mod_eq_of_lt hk, getElem!_pos z.cells k hk]
    exact hz1 _ (by simp)
  have hcm' : cap ≤ 9223372036854775807 := by unfold maxLen at hcm; omega
  refine (del_walkFile g m cap i w cur (Builtin.zeroCells z.cells 1).toList (by omega) hnc hcm' hg hcs h1 (fun w ty => ?_) hzl hzo).mono fun e w' h => ?_
  · simp [Builtin.clear_, run_underlying Tryz.underlying40, hzv]
  · obtain ⟨rfl, d, rfl⟩ := h
    obtain ⟨s1, s2⟩ := Go.Vam.del_list (sz := 2) (cur := cur) (zs := (Builtin.zeroCells z.cells 1).toList) (by omega : i ≤ m) hnc hcs hzl
    have hd : ((w.drewN d).setRow g (delA1File cur (m + 1) i)).heap[g]? = some (.cells (delA1File cur (m + 1) i) 53 (0, 0)) := setRow_heap (w.drewN d) g cur _ 53 _ hg
    refine ⟨_, rfl, ⟨?_, .inr ⟨g, cap, _, rfl, hb, setRow_heap _ g _ _ 53 _ hd, by simp only [Nat.add_sub_cancel]; omega, hcm, s1, by simp only [Nat.add_sub_cancel]; exact s2⟩⟩, .inr ⟨rfl, ?_⟩⟩
    · simp only [List.length_append, List.length_take, List.length_drop, Array.length_toList, hcs]
      have := Nat.mul_le_mul_right 2 hnc
      omega
    · have g1 := Go.Vam.grown_setRow (w := w.drewN d) (g := g) (A := delA1File cur (m + 1) i)
      have g2 := Go.Vam.grown_setRow (w := (w.drewN d).setRow g (delA1File cur (m + 1) i)) (g := g) (A := delA2File (delA1File cur (m + 1) i) (Builtin.zeroCells z.cells 1).toList (m + 1))
      exact ⟨rfl, rfl, rfl, Nat.le_trans g1.size g2.size, fun k hk hk' => by rw [g2.block k (by simpa using hk) hk', g1.block k hk hk']; rfl⟩
end Go.Proofs.YtmfbcgheffdghaaGreat
