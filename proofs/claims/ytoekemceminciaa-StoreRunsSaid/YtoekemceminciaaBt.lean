/- A struct whose first field is a slice of bytes over a block of its own: what stores do to it. -/
import Derived.Test.YtoekemceminciaaStA
namespace Go.Proofs.Ytoekemceminciaa
open Go.RowKit
set_option linter.unusedVariables false
set_option linter.unusedSimpArgs false

/-- Block g: a struct of type T, its first cell a slice of the bytes b in block h, the other cells cs. -/
structure BAt (T : TypeId) (w : World) (g h cap : Nat) (b : List UInt8) (cs : List Value) : Prop where
  blk : w.heap[g]? = some (.cells (.slice (some ⟨h, 0, none⟩) b.length cap :: cs).toArray T (0, 0))
  ne : g ≠ h
  cell : ∀ i (hi : i < b.length), w.cell? ⟨h, i, none⟩ = some (.int .u8 (b[i].toNat : Int))
  free : ∀ i, i < b.length → w.frozen? ⟨h, i, none⟩ = false
  lt : h < w.heap.size
  le : b.length ≤ cap
  small : b.length ≤ 1000

section
variable {T : TypeId} {w : World} {g h cap : Nat} {b : List UInt8} {cs : List Value}
theorem BAt.c (k : BAt T w g h cap b cs) (i : Nat) : w.cell? ⟨g, i, none⟩ = (Value.slice (some ⟨h, 0, none⟩) b.length cap :: cs)[i]? := by
  rw [blk_cell k.blk i]; simp
theorem BAt.f (k : BAt T w g h cap b cs) (i : Nat) : w.frozen? ⟨g, i, none⟩ = false := blk_frozen k.blk i
theorem BAt.glt (k : BAt T w g h cap b cs) : g < w.heap.size := (Array.getElem?_eq_some_iff.1 k.blk).1

/-- Other cells of the struct. -/
theorem BAt.put {w' : World} {cs' : List Value} (k : BAt T w g h cap b cs) (hg : w'.heap[g]? = some (.cells (.slice (some ⟨h, 0, none⟩) b.length cap :: cs').toArray T (0, 0))) (hh : w'.heap[h]? = w.heap[h]?) (hz : w.heap.size ≤ w'.heap.size) : BAt T w' g h cap b cs' := by
  refine ⟨hg, k.ne, fun i hi => ?_, fun i hi => ?_, by have := k.lt; omega, k.le, k.small⟩
  · rw [World.cell?_of_block (w := w) (a := ⟨h, i, none⟩) hh, k.cell i hi]
  · rw [World.frozen?_of_block (w := w) (a := ⟨h, i, none⟩) hh]
    exact k.free i hi

theorem BAt.set (k : BAt T w g h cap b cs) (i : Nat) (u : Value) : BAt T (w.setCell ⟨g, i + 1, none⟩ u) g h cap b (cs.set i u) := by
  refine k.put ?_ (set_other _ _ k.ne.symm) (by simp [World.setCell])
  rw [set_heap k.blk (i + 1) u]
  simp [List.set_cons_succ]

theorem BAt.same {w' : World} (k : BAt T w g h cap b cs) (hw : w'.heap = w.heap) : BAt T w' g h cap b cs := k.put (by rw [hw]; exact k.blk) (by rw [hw]) (by rw [hw]; exact Nat.le_refl _)
theorem BAt.keep {w' : World} {g' h' : Nat} (k : BAt T w g h cap b cs) (o : Only g' h' w w') (h1 : g ≠ g') (h2 : g ≠ h') (h3 : h ≠ g') (h4 : h ≠ h') : BAt T w' g h cap b cs :=
  k.put ((o.block g k.glt h1 h2).trans k.blk) (o.block h k.lt h3 h4) o.size
theorem BAt.below {w' : World} (k : BAt T w g h cap b cs) (o : Below w.heap.size w w') : BAt T w' g h cap b cs :=
  k.put ((o.block g k.glt).trans k.blk) (o.block h k.lt) o.size

/-- Bytes pasted into the row. -/
theorem BAt.paste (k : BAt T w g h cap b cs) (a : Nat) (l : List UInt8) (hl : a + l.length ≤ b.length) {W : World} (hW : W.heap = w.heap) : BAt T (W.setCells h a (cellsU l)) g h cap (pasteL b a l) cs := by
  have hlen := pasteL_length hl
  have hcW : ∀ x, W.cell? x = w.cell? x := fun x => World.cell?_of_block (by rw [hW])
  refine ⟨?_, k.ne, fun i hi => ?_, fun i hi => ?_, ?_, by rw [hlen]; exact k.le, by rw [hlen]; exact k.small⟩
  · rw [heap_setCells_other k.ne, hW, k.blk, hlen]
  · have hi' : i < b.length := by omega
    have hg := pasteL_get hl i
    rw [List.getElem?_eq_getElem hi] at hg
    by_cases h1 : i < a
    · rw [World.cell?_setCells_out _ _ _ _ _ (fun _ _ => Or.inl h1), hcW, k.cell i hi']
      rw [if_pos h1, List.getElem?_eq_getElem hi'] at hg
      simp only [Option.some.injEq] at hg
      rw [hg]
    · by_cases h2 : i < a + l.length
      · have := World.cell?_setCells_in h (cellsU l) a W (fun j hj => by rw [cellsU_length] at hj; rw [hcW, k.cell _ (by omega)]; rfl) (i - a) (by rw [cellsU_length]; omega)
        rw [show a + (i - a) = i by omega] at this
        rw [this]
        rw [if_neg h1, if_pos h2, List.getElem?_eq_getElem (by omega)] at hg
        simp only [Option.some.injEq] at hg
        simp only [cellsU, List.getElem_map, hg]
      · rw [World.cell?_setCells_out _ _ _ _ _ (fun _ _ => Or.inr (by rw [cellsU_length]; simp; omega)), hcW, k.cell i hi']
        rw [if_neg h1, if_neg h2, List.getElem?_eq_getElem hi'] at hg
        simp only [Option.some.injEq] at hg
        rw [hg]
  · rw [World.frozen?_setCells, World.frozen?_of_block (w := w) (by rw [hW])]
    exact k.free i (by omega)
  · rw [size_setCells, hW]
    exact k.lt

theorem BAt.byte (k : BAt T w g h cap b cs) (a : Nat) (x : UInt8) (hl : a < b.length) : BAt T (w.setCell ⟨h, a, none⟩ (.int .u8 (x.toNat : Int))) g h cap (pasteL b a [x]) cs :=
  k.paste a [x] (by simp; omega) rfl
end

theorem pasteL_step {b l : List UInt8} {a k : Nat} (h : a + l.length ≤ b.length) (hk : k < l.length) : pasteL (pasteL b a (l.take k)) (a + k) [l[k]] = pasteL b a (l.take (k + 1)) := by
  have lk : (l.take k).length = k := by simp; omega
  have lk1 : (l.take (k + 1)).length = k + 1 := by simp; omega
  have lp : (pasteL b a (l.take k)).length = b.length := by rw [pasteL_length]; omega
  apply List.ext_getElem?
  intro i
  rw [pasteL_get (by rw [lp]; simp; omega), pasteL_get (by omega), pasteL_get (by omega), lk, lk1]
  simp only [List.length_singleton]
  by_cases c0 : i < a
  · rw [if_pos (by omega), if_pos c0, if_pos c0]
  · by_cases c1 : i < a + k
    · rw [if_pos c1, if_neg c0, if_pos c1, if_neg c0, if_pos (by omega), List.getElem?_take, List.getElem?_take, if_pos (by omega), if_pos (by omega)]
    · by_cases c2 : i < a + k + 1
      · rw [if_neg c1, if_pos c2, if_neg c0, if_pos (by omega), List.getElem?_take, if_pos (by omega), show i - (a + k) = 0 by omega, show i - a = k by omega]
        simp [hk]
      · rw [if_neg c1, if_neg c2, if_neg c0, if_neg c1, if_neg c0, if_neg (by omega)]
theorem pasteL_none (b : List UInt8) (a : Nat) : pasteL b a [] = b := by simp [pasteL]
end Go.Proofs.Ytoekemceminciaa
