/- An abstract machine over data (part 23): what slices.Insert and slices.Delete leave in an array, cell by cell. -/
import Derived.Test.YtmfbcgheffdghaaGreatG7
import Derived.Lib.AppendZerosOnto
import Derived.Shelf.Spec.SlicesInsert
set_option linter.unusedSimpArgs false
set_option linter.unusedVariables false
namespace Go.Vam
open Go.RowKit
set_option linter.unusedVariables false
set_option linter.unusedSimpArgs false
def over (cur : Array Value) (a : Nat) (row : List Value) : Array Value := (cur.toList.take a ++ row ++ cur.toList.drop (a + row.length)).toArray
theorem over_size {cur : Array Value} {a : Nat} {row : List Value} (h : a + row.length ≤ cur.size) : (over cur a row).size = cur.size := by
  unfold over
  simp only [List.size_toArray, List.length_append, List.length_take, List.length_drop, Array.length_toList]
  omega
theorem over_get {cur : Array Value} {a : Nat} {row : List Value} (h : a + row.length ≤ cur.size) (k : Nat) : (over cur a row).toList[k]? = if a ≤ k ∧ k < a + row.length then row[k - a]? else cur.toList[k]? := by
  unfold over
  exact splice_get cur.toList row a k (by simpa using h)
/-- In place. -/
theorem shift_list {sz n i c : Nat} {cur : Array Value} {xs : List Value} (hi : i ≤ n) (hc : n + 1 ≤ c) (hs : cur.size = c * sz) (hx : xs.length = sz) :
    (over (over cur ((i + 1) * sz) ((cur.toList.take (n * sz)).drop (i * sz))) (i * sz) xs).size = c * sz ∧
    (over (over cur ((i + 1) * sz) ((cur.toList.take (n * sz)).drop (i * sz))) (i * sz) xs).toList.take ((n + 1) * sz) = (cur.toList.take (n * sz)).take (i * sz) ++ xs ++ (cur.toList.take (n * sz)).drop (i * sz) := by
  have m1 : i * sz ≤ n * sz := Nat.mul_le_mul_right _ hi
  have m2 : (n + 1) * sz ≤ c * sz := Nat.mul_le_mul_right _ hc
  have m3 : (n + 1) * sz = n * sz + sz := Nat.succ_mul _ _
  have m4 : (i + 1) * sz = i * sz + sz := Nat.succ_mul _ _
  have hl : ((cur.toList.take (n * sz)).drop (i * sz)).length = n * sz - i * sz := by simp; omega
  have f1 : (i + 1) * sz + ((cur.toList.take (n * sz)).drop (i * sz)).length ≤ cur.size := by rw [hl]; omega
  have s1 := over_size f1
  have f2 : i * sz + xs.length ≤ (over cur ((i + 1) * sz) ((cur.toList.take (n * sz)).drop (i * sz))).size := by rw [s1]; omega
  refine ⟨by rw [over_size f2, s1, hs], List.ext_getElem? fun k => ?_⟩
  rw [List.getElem?_take]
  have ht : ((cur.toList.take (n * sz)).take (i * sz)).length = i * sz := by simp; omega
  by_cases hk : k < (n + 1) * sz
  · rw [if_pos hk, over_get f2, over_get f1, hl]
    by_cases h1 : k < i * sz
    · rw [if_neg (by omega), if_neg (by omega), List.append_assoc, List.getElem?_append_left (by omega), List.getElem?_take, if_pos h1, List.getElem?_take, if_pos (by omega)]
    · by_cases h2 : k < i * sz + sz
      · rw [if_pos (by omega), List.append_assoc, List.getElem?_append_right (by omega), ht, List.getElem?_append_left (by omega)]
      · rw [if_neg (by omega), if_pos (by omega), List.append_assoc, List.getElem?_append_right (by omega), ht, List.getElem?_append_right (by omega), hx, m4, Nat.sub_sub]
  · rw [if_neg hk, List.getElem?_eq_none]
    simp only [List.length_append, ht, hx, hl]
    omega
/-- In a new array. -/
theorem grow_list {sz n i G : Nat} {cur B : Array Value} {xs : List Value} (hi : i ≤ n) (hG : n + 1 ≤ G) (hs : cur.size = n * sz) (hB : B.size = G * sz) (hBi : ∀ k, k < i * sz → B.toList[k]? = cur.toList[k]?) (hx : xs.length = sz) :
    (over (over B (i * sz) xs) ((i + 1) * sz) ((cur.toList.take (n * sz)).drop (i * sz))).size = G * sz ∧
    (over (over B (i * sz) xs) ((i + 1) * sz) ((cur.toList.take (n * sz)).drop (i * sz))).toList.take ((n + 1) * sz) = (cur.toList.take (n * sz)).take (i * sz) ++ xs ++ (cur.toList.take (n * sz)).drop (i * sz) := by
  have m1 : i * sz ≤ n * sz := Nat.mul_le_mul_right _ hi
  have m2 : (n + 1) * sz ≤ G * sz := Nat.mul_le_mul_right _ hG
  have m3 : (n + 1) * sz = n * sz + sz := Nat.succ_mul _ _
  have m4 : (i + 1) * sz = i * sz + sz := Nat.succ_mul _ _
  have hl : ((cur.toList.take (n * sz)).drop (i * sz)).length = n * sz - i * sz := by simp; omega
  have f1 : i * sz + xs.length ≤ B.size := by omega
  have s1 := over_size f1
  have f2 : (i + 1) * sz + ((cur.toList.take (n * sz)).drop (i * sz)).length ≤ (over B (i * sz) xs).size := by rw [s1, hl]; omega
  refine ⟨by rw [over_size f2, s1, hB], List.ext_getElem? fun k => ?_⟩
  rw [List.getElem?_take]
  have ht : ((cur.toList.take (n * sz)).take (i * sz)).length = i * sz := by simp; omega
  by_cases hk : k < (n + 1) * sz
  · rw [if_pos hk, over_get f2, over_get f1, hl]
    by_cases h1 : k < i * sz
    · rw [if_neg (by omega), if_neg (by omega), List.append_assoc, List.getElem?_append_left (by omega), List.getElem?_take, if_pos h1, List.getElem?_take, if_pos (by omega)]
      exact hBi k h1
    · by_cases h2 : k < i * sz + sz
      · rw [if_neg (by omega), if_pos (by omega), List.append_assoc, List.getElem?_append_right (by omega), ht, List.getElem?_append_left (by omega)]
      · rw [if_pos (by omega), List.append_assoc, List.getElem?_append_right (by omega), ht, List.getElem?_append_right (by omega), hx, m4, Nat.sub_sub]
  · rw [if_neg hk, List.getElem?_eq_none]
    simp only [List.length_append, ht, hx, hl]
    omega
theorem del_list {sz m i c : Nat} {cur : Array Value} {zs : List Value} (hi : i ≤ m) (hc : m + 1 ≤ c) (hs : cur.size = c * sz) (hz : zs.length = sz) :
    (over (over cur (i * sz) ((cur.toList.take ((m + 1) * sz)).drop ((i + 1) * sz))) (m * sz) zs).size = c * sz ∧
    (over (over cur (i * sz) ((cur.toList.take ((m + 1) * sz)).drop ((i + 1) * sz))) (m * sz) zs).toList.take (m * sz) = (cur.toList.take ((m + 1) * sz)).take (i * sz) ++ (cur.toList.take ((m + 1) * sz)).drop ((i + 1) * sz) := by
  have m1 : i * sz ≤ m * sz := Nat.mul_le_mul_right _ hi
  have m2 : (m + 1) * sz ≤ c * sz := Nat.mul_le_mul_right _ hc
  have m3 : (m + 1) * sz = m * sz + sz := Nat.succ_mul _ _
  have m4 : (i + 1) * sz = i * sz + sz := Nat.succ_mul _ _
  have hl : ((cur.toList.take ((m + 1) * sz)).drop ((i + 1) * sz)).length = m * sz - i * sz := by simp; omega
  have f1 : i * sz + ((cur.toList.take ((m + 1) * sz)).drop ((i + 1) * sz)).length ≤ cur.size := by rw [hl]; omega
  have s1 := over_size f1
  have f2 : m * sz + zs.length ≤ (over cur (i * sz) ((cur.toList.take ((m + 1) * sz)).drop ((i + 1) * sz))).size := by rw [s1]; omega
  refine ⟨by rw [over_size f2, s1, hs], List.ext_getElem? fun k => ?_⟩
  rw [List.getElem?_take]
  have ht : ((cur.toList.take ((m + 1) * sz)).take (i * sz)).length = i * sz := by simp; omega
  by_cases hk : k < m * sz
  · rw [if_pos hk, over_get f2, if_neg (by omega), over_get f1, hl]
    by_cases h1 : k < i * sz
    · rw [if_neg (by omega), List.getElem?_append_left (by omega), List.getElem?_take, if_pos h1, List.getElem?_take, if_pos (by omega)]
    · rw [if_pos (by omega), List.getElem?_append_right (by omega), ht]
  · rw [if_neg hk, List.getElem?_eq_none]
    simp only [List.length_append, ht, hl]
    omega

section
variable {P : Program}
theorem step_append_runI {ops : Array Oper} {o : Oper} {a : Act} {w : World} {K : Act → World → Prop} {Q : Exit → Act → World → Prop} {E : Prop}
    (hg : o.guard = none) (d x : Operand) (dT sT : TypeId) (hop : o.op = Op.call { callee := Callee.builtin Builtin.append, args := #[d, x], argTypes := #[dT, sT] })
    (v u : Value) (hd : a.eval d = v) (hx : a.eval x = u) {v' : Value} {w' : World} (hr : (Builtin.append_ #[dT, sT] o.type #[v, u]).run P w = .ok v' w') (hK : K (a.put o.dst v') w') :
    if Region.wanted o (yielded ops a.tmps) = true then Oper.wp P o a w K Q else E := by
  have hw : Region.wanted o (yielded ops a.tmps) = true := by simp [Region.wanted, hg]
  rw [if_pos hw]
  unfold Oper.wp
  simp [execOp, hop, resolve, invoke, builtin, hd, hx, hr, Result.andThen]
  exact hK
theorem wpList_clear_runI (w : World) {ops : Array Oper} {rest : List Oper} {o : Oper} {a : Act} {Q : Exit → Act → World → Prop} (hgd : o.guard = none) (d : Operand) (t : TypeId)
    (ho : o.op = .call { callee := .builtin .clear, args := #[d], argTypes := #[t] }) (v : Value) (hd : a.eval d = v) {v' : Value} {w' : World}
    (hr : (Builtin.clear_ #[t] o.type #[v]).run P w = .ok v' w') (h : wpList P ops Q rest (a.put o.dst v') w') : wpList P ops Q (o :: rest) a w := by
  refine wpList_plain hgd fun _ hK => ?_
  unfold Oper.wp execOp
  simp only [ho, resolve, invoke, builtin, Sem.run_bind, Sem.run_pure, Result.andThen_ok, List.map_toArray, List.map_cons, List.map_nil, hd, hr]
  exact hK _ _ h
theorem grown_drewN (w : World) (d : Nat) : w.grownBy (w.drewN d) none := ⟨rfl, rfl, rfl, Nat.le_refl _, fun _ _ _ => rfl⟩
theorem grown_setRow {w : World} {g : Nat} {A : Array Value} : w.grownBy (w.setRow g A) (some g) := ⟨rfl, rfl, rfl, by simp, fun k hk hk' => setRow_other w g k _ (fun e => hk' (by rw [e]))⟩
theorem own_some {w : World} {base e sz n : Nat} {v : Value} {xs : List Value} (h : w.ownsRow base e sz v n xs) (hn : 0 < n) :
    ∃ g cap cur, v = .slice (some ⟨g, 0, none⟩) n cap ∧ base ≤ g ∧ w.heap[g]? = some (.cells cur e (0, 0)) ∧ n ≤ cap ∧ cap ≤ maxLen ∧ cur.size = cap * sz ∧ cur.toList.take (n * sz) = xs := by
  rcases h.2 with ⟨_, h0⟩ | h
  · omega
  · exact h
end
end Go.Vam

