/- make([]byte, n), then copy a string into it. -/
import Derived.Test.YtdmohidkighajaaWl
namespace Go.Proofs.Ytdmohidkighajaa
open Go.RowKit
set_option linter.unusedVariables false
set_option linter.unusedSimpArgs false

theorem wpList_copy_ex {P : Program} {ops : Array Oper} {rest : List Oper} {o : Oper} {a : Act} {w : World} {Q : Exit → Act → World → Prop} (hgd : o.guard = none) (d s : Operand) (t t' : TypeId)
    (ho : o.op = .call { callee := .builtin .copy, args := #[d, s], argTypes := #[t, t'] }) (v u : Value) (hd : a.eval d = v) (hs : a.eval s = u) {v' : Value} {R : World → Prop}
    (hr : ∃ w', (Builtin.copy_ #[t, t'] o.type #[v, u]).run P w = .ok v' w' ∧ R w') (h : ∀ w', R w' → wpList P ops Q rest (a.put o.dst v') w') : wpList P ops Q (o :: rest) a w :=
  wpList_plain hgd fun K hK => by
    have := step_copy_ex (P := P) (ops := ops) (o := o) (a := a) (w := w) (K := K) (Q := Q) (E := True) hgd d s t t' ho v u hd hs hr (fun x hx => hK _ _ (h x hx))
    rwa [if_pos (by simp [Region.wanted, hgd])] at this

theorem padV_cells (n : Nat) (t : List UInt8) : cellsU (padV n t) = cellsU (t.take n) ++ List.replicate (n - t.length) (Value.int .u8 0) := by
  simp [padV, cellsU, List.map_append]

set_option maxRecDepth 20000 in
theorem made_copy (n : Nat) (hn : n ≤ 1000) (t : ByteArray) (w : World) (ty : TypeId) :
    ∃ w', (Builtin.copy_ #[23, 9] ty #[.slice (some ⟨w.heap.size, 0, none⟩) n n, .string t]).run Try.prog (w.alloc (.cells (madeCells #[.int .u8 0] n) 5)) = .ok (goInt (Nat.min t.size n)) w' ∧
      (Below w.heap.size w w' ∧ w.heap.size < w'.heap.size ∧ ∀ W' : World, W'.heap[w.heap.size]? = w'.heap[w.heap.size]? → (convert 23 9 (.slice (some ⟨w.heap.size, 0, none⟩) n n)).run Try.prog W' = .ok (.string (ofL (padV n t.data.toList))) W') := by
  obtain ⟨i, hi, hz, hs, hb⟩ := info_parts info_u8
  obtain ⟨W, hW⟩ : ∃ W, w.alloc (.cells (madeCells #[.int .u8 0] n) 5) = W := ⟨_, rfl⟩
  have hg : W.heap[w.heap.size]? = some (.cells (madeCells #[.int .u8 0] n) 5 (0, 0)) := by rw [← hW]; exact heap_alloc_new w _
  have hbw : Below w.heap.size w W := by rw [← hW]; exact (Below.refl _ _).alloc (Nat.le_refl _) _
  have hlt : w.heap.size < W.heap.size := (Array.getElem?_eq_some_iff.1 hg).1
  have hcl : (cellsU (t.data.toList.take n)).length = Nat.min t.size n := by
    rw [cellsU_length, List.length_take, size_data]
    exact Nat.min_comm _ _
  have hmn : Nat.min t.size n ≤ n := Nat.min_le_right _ _
  have hsz : (madeCells #[Value.int .u8 0] n).size = n := by simp [madeCells]
  have hst := run_storeCells_at Try.prog w.heap.size 0 5 (cellsU (t.data.toList.take n)) 0 (madeCells #[.int .u8 0] n) W hg (by rw [hcl, hsz]; omega) (by
    intro v hv
    obtain ⟨x, _, rfl⟩ := List.mem_map.1 hv
    rfl)
  rw [hW]
  have hrow : ((madeCells #[Value.int .u8 0] n).toList.take (0 + 0) ++ cellsU (t.data.toList.take n) ++ (madeCells #[Value.int .u8 0] n).toList.drop (0 + 0 + (cellsU (t.data.toList.take n)).length)) = cellsU (padV n t.data.toList) := by
    rw [padV_cells, hcl]
    simp only [Nat.add_zero, List.take_zero, List.nil_append, Nat.zero_add]
    congr 1
    apply List.ext_getElem?
    intro j
    rw [List.getElem?_drop, Array.getElem?_toList]
    by_cases hj : Nat.min t.size n + j < n
    · rw [madeCells_get _ _ _ hj, List.getElem?_replicate, if_pos]
      rw [size_data]
      have : Nat.min t.size n = t.size := Nat.min_eq_left (Classical.byContradiction fun h => by
        rw [show Nat.min t.size n = n from Nat.min_eq_right (by omega)] at hj
        omega)
      omega
    · rw [Array.getElem?_eq_none (by rw [hsz]; omega), List.getElem?_eq_none]
      rw [List.length_replicate, size_data]
      have h1 : Nat.min t.size n = t.size ∨ Nat.min t.size n = n := by
        rcases Nat.le_total t.size n with h | h
        · exact .inl (Nat.min_eq_left h)
        · exact .inr (Nat.min_eq_right h)
      have h2 : Nat.min t.size n ≤ t.size := Nat.min_le_left _ _
      rcases h1 with h1 | h1 <;> rw [h1] at hj h2 <;> omega
  have hw' : W.setRow w.heap.size (cellsU (padV n t.data.toList)).toArray = W.setRow w.heap.size (cellsU (padV n t.data.toList)).toArray := rfl
  refine ⟨W.setRow w.heap.size (cellsU (padV n t.data.toList)).toArray, ?_, ?_, ?_, ?_⟩
  · rw [hrow] at hst
    have htk : List.take (Nat.min t.size n) (List.map (fun b : UInt8 => Value.int IntKind.u8 (b.toNat : Int)) t.data.toList) = cellsU (t.data.toList.take n) := by
      unfold cellsU
      rw [← List.map_take]
      congr 1
      rcases Nat.le_total t.size n with h | h
      · rw [show Nat.min t.size n = t.size from Nat.min_eq_left h, List.take_of_length_le (by rw [size_data]; omega), List.take_of_length_le (by rw [size_data]; omega)]
      · rw [show Nat.min t.size n = n from Nat.min_eq_right h]
    simp [Builtin.copy_, run_underlying Try.underlying23, Builtin.lenOf, Builtin.firstCells, sizeOf, typeInfo, hi, hs]
    rw [htk, hst]
    simp [Result.andThen]
  · exact hbw.trans ⟨rfl, rfl, rfl, by simp [World.setRow], fun k hk => setRow_other W _ k _ (by omega)⟩
  · simp [World.setRow]
    exact hlt
  · intro W' hW'
    have hg' := setRow_heap W w.heap.size _ (cellsU (padV n t.data.toList)).toArray 5 (0, 0) hg
    have := run_convert_bytes_arg (P := Try.prog) W' 23 5 Try.underlying23 Try.underlying5 w.heap.size 0 n n (numsOf (padV n t.data.toList)) (by simp [numsOf, padV_len]) (fun j hj => by
      rw [Nat.zero_add, World.cell?_of_block (w := W.setRow w.heap.size (cellsU (padV n t.data.toList)).toArray) hW', blk_cell hg' j]
      have hj' : j < (padV n t.data.toList).length := by rw [padV_len]; exact hj
      simp [numsOf, cellsU, List.getD, hj']) 9 Try.underlying9
    rw [strOf_nums] at this
    exact this
end Go.Proofs.Ytdmohidkighajaa
