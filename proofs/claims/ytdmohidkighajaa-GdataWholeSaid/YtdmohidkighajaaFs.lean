/- Frames in a slice: reading, cutting one out. -/
import Derived.Test.YtdmohidkighajaaAw
namespace Go.Proofs.Ytdmohidkighajaa
open Go.RowKit
set_option linter.unusedVariables false
set_option linter.unusedSimpArgs false

theorem step_append_ex {P : Program} {ops : Array Oper} {o : Oper} {a : Act} {w : World} {K : Act → World → Prop} {Q : Exit → Act → World → Prop} {E : Prop} (hgd : o.guard = none) (d s : Operand) (t : TypeId)
    (ho : o.op = .call { callee := .builtin .append, args := #[d, s], argTypes := #[t, t] }) (v u : Value) (hd : a.eval d = v) (hs : a.eval s = u) {R : Value → World → Prop}
    (hr : ∃ v' w', (Builtin.append_ #[t, t] o.type #[v, u]).run P w = .ok v' w' ∧ R v' w') (h : ∀ v' w', R v' w' → K (a.put o.dst v') w') : if Region.wanted o (yielded ops a.tmps) = true then Oper.wp P o a w K Q else E := by
  have hw : Region.wanted o (yielded ops a.tmps) = true := by simp [Region.wanted, hgd]
  obtain ⟨v', w', hr, hR⟩ := hr
  rw [if_pos hw]
  unfold Oper.wp execOp
  simp only [ho, resolve, invoke, builtin, Sem.run_bind, Sem.run_pure, Result.andThen_ok, List.map_toArray, List.map_cons, List.map_nil, hd, hs, hr]
  exact h _ _ hR
theorem wpList_append_go {P : Program} {ops : Array Oper} {rest : List Oper} {o : Oper} {a : Act} {w : World} {Q : Exit → Act → World → Prop} (hgd : o.guard = none) (d s : Operand) (t : TypeId)
    (ho : o.op = .call { callee := .builtin .append, args := #[d, s], argTypes := #[t, t] }) (v u : Value) (hd : a.eval d = v) (hs : a.eval s = u) {R : Value → World → Prop}
    (hr : ∃ v' w', (Builtin.append_ #[t, t] o.type #[v, u]).run P w = .ok v' w' ∧ R v' w') (h : ∀ v' w', R v' w' → wpList P ops Q rest (a.put o.dst v') w') : wpList P ops Q (o :: rest) a w :=
  wpList_plain hgd fun K hK => by
    have := step_append_ex (P := P) (ops := ops) (o := o) (a := a) (w := w) (K := K) (Q := Q) (E := True) hgd d s t ho v u hd hs hr (fun v' w' hx => hK _ _ (h v' w' hx))
    rwa [if_pos (by simp [Region.wanted, hgd])] at this

/-- A slice of frames that is read. -/
structure FS (w : World) (B g cap : Nat) (l : List Fr) : Prop where
  cells : ∀ j u, (frCells l)[j]? = some u → w.cell? ⟨g, j, none⟩ = some u
  base : B ≤ g
  lt : g < w.heap.size
  cap : l.length ≤ cap

theorem frCells_len (l : List Fr) : (frCells l).length = l.length * 19 := by
  induction l with
  | nil => rfl
  | cons f l ih =>
    show ((frV f).toList ++ frCells l).length = _
    rw [List.length_append, frV_len, ih, List.length_cons]
    omega
theorem frCells_append (a b : List Fr) : frCells (a ++ b) = frCells a ++ frCells b := by simp [frCells]
theorem frCells_one (l : List Fr) : ∀ u ∈ frCells l, u.oneCell' = true := by
  intro u hu
  obtain ⟨f, hf, hu⟩ := List.mem_flatMap.1 hu
  exact frV_one f u hu

theorem FS.load {w : World} {B g cap : Nat} {l : List Fr} (k : FS w B g cap l) (i : Nat) (f : Fr) (hi : l[i]? = some f) : w.rangeAt g (19 * i) (frV f).toList :=
  fun j u hj => k.cells _ u (frCells_get l i j f u hi hj)
theorem FS.keep {w w' : World} {B g cap : Nat} {l : List Fr} (k : FS w B g cap l) (h : w'.heap[g]? = w.heap[g]?) (hs : w.heap.size ≤ w'.heap.size) : FS w' B g cap l :=
  ⟨fun j u hj => by rw [World.cell?_of_block (w := w) h]; exact k.cells j u hj, k.base, Nat.lt_of_lt_of_le k.lt hs, k.cap⟩
theorem FS.below {w w' : World} {B g cap : Nat} {l : List Fr} (k : FS w B g cap l) (b : Below w.heap.size w w') : FS w' B g cap l := k.keep (b.block g k.lt) b.size
theorem FS.of {w : World} {B : Nat} {x : Value} {l : List Fr} (h : FrRow w B x l) (h0 : 0 < l.length) : ∃ g cap, x = .slice (some ⟨g, 0, none⟩) l.length cap ∧ FS w B g cap l := by
  rcases h.2 with ⟨_, h1⟩ | ⟨g, cap, cur, rfl, h1, h2, h3, h4⟩
  · omega
  · refine ⟨g, cap, rfl, fun j u hj => ?_, h1, (Array.getElem?_eq_some_iff.1 h2).1, h3⟩
    have := h.cells (g := g) rfl j u hj
    rwa [Addr.add_mid, Nat.zero_add] at this

theorem append_none (w : World) (ty : TypeId) (g n cap c : Nat) (A : Option Addr) (hle : n ≤ cap) : (Builtin.append_ #[64, 64] ty #[.slice (some ⟨g, 0, none⟩) n cap, .slice A 0 c]).run Try.prog w = .ok (.slice (some ⟨g, 0, none⟩) n cap) w := by
  obtain ⟨i0, hi, hz0, hz1, hz2⟩ := info_parts infoFr
  simp [Builtin.append_, run_underlying Try.underlying64, sizeOf, typeInfo, hi, Builtin.lenOf, Builtin.firstCells, hle]
  cases A <;> simp [loadCells, loadCellsFrom, storeCells]

theorem sizeFr (w : World) : (sizeOf (Try.prog.elem 64)).run Try.prog w = .ok 19 w := by
  obtain ⟨i0, hi, hz0, hz1, hz2⟩ := info_parts infoFr
  have hel : Try.prog.elem 64 = 36 := by simp [Program.elem, Try.underlying64]
  rw [hel]
  simp [sizeOf, typeInfo, hi, hz1]
theorem undFr : Try.prog.underlying 64 = some (.slice (Try.prog.elem 64)) := by
  have hel : Try.prog.elem 64 = 36 := by simp [Program.elem, Try.underlying64]
  rw [hel]
  exact Try.underlying64

/-- 'append(l[:k:k], l[k+1:]...)'. -/
theorem FS.cut {w : World} {B g cap : Nat} {l : List Fr} (s : FS w B g cap l) (k : Nat) (hk : k < l.length) (hl : l.length ≤ 1000) (hB : B ≤ w.heap.size) :
    (∀ W : World, (Instr.slice 64 (.slice (some ⟨g, 0, none⟩) l.length cap) none (some (.int .i64 k)) (some (.int .i64 k))).run Try.prog W = .ok (.slice (some ⟨g, 0, none⟩) k k) W) ∧
    ∃ A, (∀ W : World, (Instr.slice 64 (.slice (some ⟨g, 0, none⟩) l.length cap) (some (.int .i64 ((k : Int) + 1))) none none).run Try.prog W = .ok (.slice A (l.length - (k + 1)) (cap - (k + 1))) W) ∧
      ∀ (W : World) (ty : TypeId), Below w.heap.size w W → ∃ v' W', (Builtin.append_ #[64, 64] ty #[.slice (some ⟨g, 0, none⟩) k k, .slice A (l.length - (k + 1)) (cap - (k + 1))]).run Try.prog W = .ok v' W' ∧
        (∃ g' cap', v' = .slice (some ⟨g', 0, none⟩) (l.eraseIdx k).length cap' ∧ FS W' B g' cap' (l.eraseIdx k) ∧ Below W.heap.size W W') := by
  have hc := s.cap
  refine ⟨fun W => ?_, (if cap = k + 1 then some ⟨g, 0, none⟩ else some ⟨g, 19 * (k + 1), none⟩), fun W => ?_, fun W ty hb => ?_⟩
  · rw [run_slice_hm W 64 _ _ _ undFr .i64 .i64 k k (by omega) (by omega) (by omega), sizeFr]
    simp [sliced, Result.andThen, Addr.add]
  · rw [run_slice_l W 64 _ _ _ undFr .i64 _ (by omega) (by omega), sizeFr]
    have e : ((k : Int) + 1).toNat = k + 1 := by omega
    simp only [sliced, Result.andThen, e]
    split
    · rfl
    · rw [Option.map_some, Addr.add_mid, Nat.zero_add, Nat.mul_comm]
  · have sb := s.below hb
    have hlen : (l.eraseIdx k).length = l.length - 1 := List.length_eraseIdx_of_lt hk
    by_cases hlast : l.length = k + 1
    · rw [show l.length - (k + 1) = 0 by omega]
      have e : l.eraseIdx k = l.take k := by
        rw [List.eraseIdx_eq_take_drop_succ, List.drop_of_length_le (by omega), List.append_nil]
      have ek : (l.take k).length = k := by rw [List.length_take]; omega
      refine ⟨_, _, append_none W ty g k k _ _ (Nat.le_refl _), g, k, ?_, ?_, Below.refl _ _⟩
      · rw [e, ek]
      · rw [e]
        refine ⟨fun j u hj => sb.cells j u ?_, sb.base, sb.lt, by omega⟩
        have hj2 : (frCells (l.take k ++ l.drop k))[j]? = some u := by
          rw [frCells_append, List.getElem?_append_left (List.getElem?_eq_some_iff.1 hj).1]
          exact hj
        rwa [List.take_append_drop] at hj2
    · obtain ⟨i0, hi, hz0, hz1, hz2⟩ := info_parts infoFr
      rw [if_neg (by omega)]
      have ek : (l.take k).length = k := by rw [List.length_take]; omega
      have hr := run_append_grow (P := Try.prog) W 64 ty 36 i0 _ Try.underlying64 hi hz0 ⟨g, 0, none⟩ k k (frCells (l.take k)) (by rw [frCells_len, ek, hz1])
        (fun j u hj => by
          rw [Addr.add_mid, Nat.zero_add]
          refine sb.cells j u ?_
          have hj2 : (frCells (l.take k ++ l.drop k))[j]? = some u := by
            rw [frCells_append, List.getElem?_append_left (List.getElem?_eq_some_iff.1 hj).1]
            exact hj
          rwa [List.take_append_drop] at hj2)
        ⟨g, 19 * (k + 1), none⟩ (l.length - (k + 1)) (cap - (k + 1)) (frCells (l.drop (k + 1))) (by rw [frCells_len, List.length_drop, hz1])
        (fun j u hj => by
          rw [Addr.add_mid]
          refine sb.cells _ u ?_
          have hj2 : (frCells (l.take (k + 1) ++ l.drop (k + 1)))[19 * (k + 1) + j]? = some u := by
            have e2 : (frCells (l.take (k + 1))).length = 19 * (k + 1) := by rw [frCells_len, List.length_take]; omega
            rw [frCells_append, List.getElem?_append_right (by rw [e2]; omega), e2, Nat.add_sub_cancel_left]
            exact hj
          rwa [List.take_append_drop] at hj2)
        (by omega) (by omega) (growslice_fits (by omega) (by rw [hz2]; omega))
      have e : frCells (l.eraseIdx k) = frCells (l.take k) ++ frCells (l.drop (k + 1)) := by rw [List.eraseIdx_eq_take_drop_succ, frCells_append]
      refine ⟨_, _, hr, W.heap.size, _, by rw [hlen, show k + (l.length - (k + 1)) = l.length - 1 by omega], ⟨fun j u hj => ?_, by have := hb.size; omega, by simp, ?_⟩, ?_⟩
      · rw [show W.heap.size = W.drew.heap.size from rfl, blk_cell (heap_alloc_new W.drew _) j]
        rw [e] at hj
        rw [← Array.getElem?_toList, Array.toList_append, Array.toList_append, List.getElem?_append_left (by simpa using (List.getElem?_eq_some_iff.1 hj).1)]
        simpa using hj
      · rw [hlen]
        have := grownCap_ge W (l.length - 1) k 36
        exact this
      · exact ((Below.refl _ _).drew).alloc (Nat.le_refl _) _

end Go.Proofs.Ytdmohidkighajaa
