/- The walk of PartsSplits. -/
import Derived.Test.YtdmohidkighajaaQk
namespace Go.Proofs.Ytdmohidkighajaa
open Go.RowKit
set_option linter.unusedVariables false
set_option linter.unusedSimpArgs false

/-- A slice of bytes that came in. -/
def Turns (W : World) (A : Option Addr) (n : Nat) : Prop := ∀ i, i < n → ∃ (a : Addr) (x : Int), A = some a ∧ a.block < W.heap.size ∧ 0 ≤ x ∧ x ≤ 255 ∧ W.cell? (a.add i) = some (.int .u8 x)
theorem Turns.below {W w : World} {A : Option Addr} {n : Nat} (h : Turns W A n) (b : Below W.heap.size W w) : Turns w A n := by
  intro i hi
  obtain ⟨a, x, e, hb, h0, h1, hc⟩ := h i hi
  refine ⟨a, x, e, Nat.lt_of_lt_of_le hb b.size, h0, h1, ?_⟩
  rw [World.cell?_of_block (w := W) (b.block _ (by rw [block_add]; exact hb)), hc]

theorem FS.copy {w : World} {B g cap : Nat} {l : List Fr} (s : FS w B g cap l) (h0 : 0 < l.length) (hl : l.length ≤ 1000) (b : Nat) (W : World) (ty : TypeId) (hb : Below w.heap.size w W) :
    ∃ v' W', (Builtin.append_ #[64, 64] ty #[.slice (some ⟨b, 0, none⟩) 0 0, .slice (some ⟨g, 0, none⟩) l.length cap]).run Try.prog W = .ok v' W' ∧
      (∃ g' cap', v' = .slice (some ⟨g', 0, none⟩) l.length cap' ∧ FS W' W.heap.size g' cap' l ∧ Below W.heap.size W W') := by
  have sb := s.below hb
  obtain ⟨i0, hi, hz0, hz1, hz2⟩ := info_parts infoFr
  have hr := run_append_grow (P := Try.prog) W 64 ty 36 i0 _ Try.underlying64 hi hz0 ⟨b, 0, none⟩ 0 0 [] (by simp)
    (fun j u hj => by simp at hj) ⟨g, 0, none⟩ l.length cap (frCells l) (by rw [frCells_len, hz1])
    (fun j u hj => by
      rw [Addr.add_mid, Nat.zero_add]
      exact sb.cells j u hj)
    (by omega) (by omega) (growslice_fits (by omega) (by rw [hz2]; omega))
  rw [Nat.zero_add] at hr
  refine ⟨_, _, hr, W.heap.size, _, rfl, ⟨fun j u hj => ?_, Nat.le_refl _, by simp, ?_⟩, ?_⟩
  · rw [show W.heap.size = W.drew.heap.size from rfl, blk_cell (heap_alloc_new W.drew _) j]
    rw [← Array.getElem?_toList, Array.toList_append, List.getElem?_append_left (by simpa using (List.getElem?_eq_some_iff.1 hj).1)]
    simpa using hj
  · exact grownCap_ge W l.length 0 36
  · exact ((Below.refl _ _).drew).alloc (Nat.le_refl _) _

def lenS : Value → Nat
  | .slice _ n _ => n
  | _ => 0
theorem map_eraseIdx {α β : Type} (g : α → β) : ∀ (l : List α) (k : Nat), (l.map g).eraseIdx k = (l.eraseIdx k).map g
  | [], k => rfl
  | a :: l, 0 => rfl
  | a :: l, k + 1 => by simp [map_eraseIdx g l k]
theorem frame_neq (f : Fr) (w : World) : (binOp .neq 36 (.agg (frV f)) (.agg (frV f))).run Try.prog w = .ok (.bool false) w := by
  rw [run_neq_struct, frame_same]
  rfl
theorem list_take_one {l : List Value} {i : Nat} {v : Value} (h : l[i]? = some v) : l[i]? = some v := h
theorem FS.loadn {w : World} {B g cap : Nat} {l : List Fr} (k : FS w B g cap l) (i : Nat) (f : Fr) (hi : l[i]? = some f) : w.rangeAt g (i * 19) (frV f).toList := by
  rw [Nat.mul_comm]
  exact k.load i f hi

end Go.Proofs.Ytdmohidkighajaa
