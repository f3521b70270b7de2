/- The reference's Glue: Number, Count, Put's ways out ahead of the version. -/
import Derived.Test.YtdmohidkighajaaQk
namespace Go.Proofs.Ytdmohidkighajaa
open Go.RowKit
set_option linter.unusedVariables false
set_option linter.unusedSimpArgs false

/-- A version as one number. -/
def num (a b : Int) : Int := a * 4294967296 + b
theorem num_eq (a b : Int) : num a b = a * 4294967296 + b := rfl
attribute [irreducible] num

set_option maxHeartbeats 400000 in
theorem number_any (a b : Int) (ha : 0 ≤ a ∧ a ≤ 65535) (hb : 0 ≤ b ∧ b ≤ 4294967295) (w : World) :
    Calls Try.prog 23 #[.agg #[.int .u16 a, .int .u32 b]] w fun e w' => e = .returned (.int .u64 (num a b)) ∧ Below w.heap.size w w' := by
  obtain ⟨a0, a1⟩ := ha
  obtain ⟨b0, b1⟩ := hb
  have hbw : Below w.heap.size w (w.alloc (.cells #[.int .u16 a, .int .u32 b] 34)) := (Below.refl _ _).alloc (Nat.le_refl _) _
  go_enter Try.func23, Try.ntmps23
  go_wp2
  go_ret
  exact ⟨by rw [num_eq]; rfl, hbw⟩

/-- The reference's glue: its block; the row of what came where it is at a version. -/
structure Rg where
  size : Nat
  is : Bool
  vi : Int
  vs : Int
  base : Option Addr
  cap : Nat
  came : List ByteArray
  ty : TypeId
  tl : List Value

structure RAt (w : World) (r : Nat) (R : Rg) : Prop where
  blk : w.heap[r]? = some (.cells (.int .i64 R.size :: .bool R.is :: .int .u16 R.vi :: .int .u32 R.vs :: .slice R.base R.came.length R.cap :: R.tl).toArray R.ty (0, 0))
  cap : R.came.length ≤ R.cap
  bl : ∀ a, R.base = some a → a.block < w.heap.size
  row : R.came ≠ [] → ∃ h cur, R.base = some ⟨h, 0, none⟩ ∧ h ≠ r ∧ w.heap[h]? = some (.cells cur 9 (0, 0)) ∧ cur.toList.take R.came.length = R.came.map Value.string

theorem RAt.c {w : World} {r : Nat} {R : Rg} (k : RAt w r R) (i : Nat) : w.cell? ⟨r, i, none⟩ = (Value.int .i64 R.size :: .bool R.is :: .int .u16 R.vi :: .int .u32 R.vs :: .slice R.base R.came.length R.cap :: R.tl)[i]? := by
  rw [blk_cell k.blk i]; simp

theorem RAt.keep {w w' : World} {r : Nat} {R : Rg} (k : RAt w r R) (b : Below w.heap.size w w') : RAt w' r R :=
  ⟨(b.block r (Array.getElem?_eq_some_iff.1 k.blk).1).trans k.blk, k.cap, fun a h => Nat.lt_of_lt_of_le (k.bl a h) b.size, fun h => by
    obtain ⟨h', cur, e, hne, hb, ht⟩ := k.row h
    exact ⟨h', cur, e, hne, (b.block h' (Array.getElem?_eq_some_iff.1 hb).1).trans hb, ht⟩⟩
theorem RAt.cell {w : World} {r : Nat} {R : Rg} (k : RAt w r R) (i : Nat) (s : ByteArray) (hi : R.came[i]? = some s) : ∃ h, R.base = some ⟨h, 0, none⟩ ∧ h ≠ r ∧ h < w.heap.size ∧ w.cell? ⟨h, i, none⟩ = some (.string s) ∧ w.frozen? ⟨h, i, none⟩ = false := by
  obtain ⟨h, cur, e, hne, hb, ht⟩ := k.row (by intro e; rw [e] at hi; simp at hi)
  refine ⟨h, e, hne, (Array.getElem?_eq_some_iff.1 hb).1, ?_, blk_frozen hb i⟩
  rw [blk_cell hb i, ← Array.getElem?_toList]
  have hlt : i < R.came.length := (List.getElem?_eq_some_iff.1 hi).1
  have h2 : (cur.toList.take R.came.length)[i]? = some (.string s) := by rw [ht, List.getElem?_map, hi]; rfl
  rw [List.getElem?_take, if_pos hlt] at h2
  exact h2

/-- How many came. -/
def cnt (l : List ByteArray) : Nat := (l.filter fun s => !s.data.toList.isEmpty).length

attribute [local go_sem] ofL_toList
end Go.Proofs.Ytdmohidkighajaa
