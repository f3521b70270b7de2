/- The walks of package gdata: a subscriber. -/
import Derived.Test.YtdmohidkighajaaGd
namespace Go.Proofs.Ytdmohidkighajaa
open Go.RowKit
set_option linter.unusedVariables false
set_option linter.unusedSimpArgs false

/-- A subscriber's state, but its glue. -/
structure Sb where
  front : ByteArray
  fi : Int
  fs : Int
  behind : ByteArray
  bi : Int
  bs : Int
  waits : Bool
  fault : Bool
def sbV (g : Nat) (s : Sb) : Array Value := #[.pointer (some ⟨g, 0, none⟩), .string s.front, .int .u16 s.fi, .int .u32 s.fs, .string s.behind, .int .u16 s.bi, .int .u32 s.bs, .bool s.waits, .bool s.fault]
abbrev SAt (w : World) (p g : Nat) (s : Sb) : Prop := w.heap[p]? = some (.cells (sbV g s) 85 (0, 0))

section
variable {w : World} {p g : Nat} {s : Sb}
set_option maxHeartbeats 400000 in
theorem slatch_no (k : SAt w p g s) (h : s.waits = false) : Calls Try.prog 15 #[.pointer (some ⟨p, 0, none⟩)] w fun e w' => e = .returned (.bool false) ∧ w = w' := by
  have c7 : w.cell? ⟨p, 7, none⟩ = some (.bool false) := by rw [← h]; exact blk_cell k 7
  clear k h
  go_enter Try.func15, Try.ntmps15
  go_wp2
  go_ret
  exact ⟨rfl, rfl⟩

theorem sb_set (a0 a1 a2 a3 a4 a5 a6 a7 a8 b1 b2 b3 b4 b5 b6 b7 : Value) : ((((((((#[a0, a1, a2, a3, a4, a5, a6, a7, a8] : Array Value).setIfInBounds 1 b1).setIfInBounds 2 b2).setIfInBounds 3 b3).setIfInBounds 4 b4).setIfInBounds 5 b5).setIfInBounds 6 b6).setIfInBounds 7 b7) = #[a0, b1, b2, b3, b4, b5, b6, b7, a8] := by
  simp only [List.setIfInBounds_toArray, List.set_cons_zero, List.set_cons_succ]
theorem latch_world (k : SAt w p g s) : SAt (((((((w.setCell ⟨p, 1, none⟩ (.string s.behind)).setCell ⟨p, 2, none⟩ (.int .u16 s.bi)).setCell ⟨p, 3, none⟩ (.int .u32 s.bs)).setCell ⟨p, 4, none⟩ (.string ⟨#[]⟩)).setCell ⟨p, 5, none⟩ (.int .u16 0)).setCell ⟨p, 6, none⟩ (.int .u32 0)).setCell ⟨p, 7, none⟩ (.bool false)) p g { front := s.behind, fi := s.bi, fs := s.bs, behind := ⟨#[]⟩, bi := 0, bs := 0, waits := false, fault := s.fault } ∧
    Only p p w (((((((w.setCell ⟨p, 1, none⟩ (.string s.behind)).setCell ⟨p, 2, none⟩ (.int .u16 s.bi)).setCell ⟨p, 3, none⟩ (.int .u32 s.bs)).setCell ⟨p, 4, none⟩ (.string ⟨#[]⟩)).setCell ⟨p, 5, none⟩ (.int .u16 0)).setCell ⟨p, 6, none⟩ (.int .u32 0)).setCell ⟨p, 7, none⟩ (.bool false)) := by
  have h := set_heap (set_heap (set_heap (set_heap (set_heap (set_heap (set_heap (show w.heap[p]? = some (.cells #[.pointer (some ⟨g, 0, none⟩), .string s.front, .int .u16 s.fi, .int .u32 s.fs, .string s.behind, .int .u16 s.bi, .int .u32 s.bs, .bool s.waits, .bool s.fault] 85 (0, 0)) from k) 1 (.string s.behind)) 2 (.int .u16 s.bi)) 3 (.int .u32 s.bs)) 4 (.string ⟨#[]⟩)) 5 (.int .u16 0)) 6 (.int .u32 0)) 7 (.bool false)
  rw [sb_set] at h
  exact ⟨h, ((((((((Only.refl p p w).set p 1 _ (.inl rfl)).set p 2 _ (.inl rfl)).set p 3 _ (.inl rfl)).set p 4 _ (.inl rfl)).set p 5 _ (.inl rfl)).set p 6 _ (.inl rfl)).set p 7 _ (.inl rfl))⟩

set_option maxHeartbeats 1000000 in
theorem slatch_yes (k : SAt w p g s) (h : s.waits = true) : Calls Try.prog 15 #[.pointer (some ⟨p, 0, none⟩)] w fun e w' => e = .returned (.bool true) ∧
    SAt w' p g { front := s.behind, fi := s.bi, fs := s.bs, behind := ⟨#[]⟩, bi := 0, bs := 0, waits := false, fault := s.fault } ∧ Only p p w w' := by
  have c1 : w.cell? ⟨p, 1, none⟩ = some (.string s.front) := blk_cell k 1
  have c2 : w.cell? ⟨p, 2, none⟩ = some (.int .u16 s.fi) := blk_cell k 2
  have c3 : w.cell? ⟨p, 3, none⟩ = some (.int .u32 s.fs) := blk_cell k 3
  have c4 : w.cell? ⟨p, 4, none⟩ = some (.string s.behind) := blk_cell k 4
  have c5 : w.cell? ⟨p, 5, none⟩ = some (.int .u16 s.bi) := blk_cell k 5
  have c6 : w.cell? ⟨p, 6, none⟩ = some (.int .u32 s.bs) := blk_cell k 6
  have c7 : w.cell? ⟨p, 7, none⟩ = some (.bool true) := by rw [← h]; exact blk_cell k 7
  have f1 := blk_frozen k 1
  have f2 := blk_frozen k 2
  have f3 := blk_frozen k 3
  have f4 := blk_frozen k 4
  have f5 := blk_frozen k 5
  have f6 := blk_frozen k 6
  have f7 := blk_frozen k 7
  have K := hide k
  clear k h
  go_enter Try.func15, Try.ntmps15
  go_wp2
  go_ret
  exact ⟨rfl, latch_world K.out⟩

set_option maxHeartbeats 400000 in
theorem sfault_any (k : SAt w p g s) : Calls Try.prog 17 #[.pointer (some ⟨p, 0, none⟩)] w fun e w' => e = .returned (.bool s.fault) ∧ w = w' := by
  have c8 : w.cell? ⟨p, 8, none⟩ = some (.bool s.fault) := blk_cell k 8
  clear k
  go_enter Try.func17, Try.ntmps17
  go_wp2
  go_ret
  exact ⟨rfl, rfl⟩

set_option maxHeartbeats 1000000 in
theorem sfront_any (k : SAt w p g s) : Calls Try.prog 16 #[.pointer (some ⟨p, 0, none⟩)] w fun e w' => e = .returned (.tuple #[.string s.front, .agg #[.int .u16 s.fi, .int .u32 s.fs]]) ∧ Below w.heap.size w w' := by
  have hp := blk_lt k
  have c1 : w.cell? ⟨p, 1, none⟩ = some (.string s.front) := blk_cell k 1
  have c2 : w.cell? ⟨p, 2, none⟩ = some (.int .u16 s.fi) := blk_cell k 2
  have c3 : w.cell? ⟨p, 3, none⟩ = some (.int .u32 s.fs) := blk_cell k 3
  clear k
  go_enter Try.func16, Try.ntmps16
  go_wp2
  go_region
  go_wp2
  go_returns
  exact ⟨rfl, ((Below.refl _ _).alloc (Nat.le_refl _) _).drew⟩

set_option maxHeartbeats 1000000 in
theorem swaits_any (k : SAt w p g s) : Calls Try.prog 21 #[.pointer (some ⟨p, 0, none⟩)] w fun e w' => e = .returned (.tuple #[.string s.behind, .agg #[.int .u16 s.bi, .int .u32 s.bs], .bool s.waits]) ∧ Below w.heap.size w w' := by
  have hp := blk_lt k
  have c4 : w.cell? ⟨p, 4, none⟩ = some (.string s.behind) := blk_cell k 4
  have c5 : w.cell? ⟨p, 5, none⟩ = some (.int .u16 s.bi) := blk_cell k 5
  have c6 : w.cell? ⟨p, 6, none⟩ = some (.int .u32 s.bs) := blk_cell k 6
  have c7 : w.cell? ⟨p, 7, none⟩ = some (.bool s.waits) := blk_cell k 7
  clear k
  go_enter Try.func21, Try.ntmps21
  go_wp2
  go_region
  go_wp2
  go_returns
  exact ⟨rfl, ((Below.refl _ _).alloc (Nat.le_refl _) _).drew⟩
end

set_option maxHeartbeats 400000 in
theorem slatch_nil (w : World) : Calls Try.prog 15 #[.pointer none] w fun e w' => e = .returned (.bool false) ∧ w = w' := by
  go_enter Try.func15, Try.ntmps15
  go_wp2
  go_ret
  exact ⟨rfl, rfl⟩
set_option maxHeartbeats 400000 in
theorem sfault_nil (w : World) : Calls Try.prog 17 #[.pointer none] w fun e w' => e = .returned (.bool false) ∧ w = w' := by
  go_enter Try.func17, Try.ntmps17
  go_wp2
  go_ret
  exact ⟨rfl, rfl⟩
set_option maxHeartbeats 400000 in
theorem sfront_nil (w : World) : Calls Try.prog 16 #[.pointer none] w fun e w' => e = .returned (.tuple #[.string ⟨#[]⟩, .agg #[.int .u16 0, .int .u32 0]]) ∧ Below w.heap.size w w' := by
  go_enter Try.func16, Try.ntmps16
  go_wp2
  go_returns
  exact ⟨rfl, (Below.refl _ _).alloc (Nat.le_refl _) _⟩
set_option maxHeartbeats 400000 in
theorem sput_nil (w : World) (f : Fr) : Calls Try.prog 12 #[.pointer none, .agg (frV f)] w fun e w' => e = .returned (.tuple #[.bool false, .int .i64 1]) ∧ Below w.heap.size w w' := by
  go_enter Try.func12, Try.ntmps12
  go_wp2
  go_ret2
  exact ⟨rfl, (Below.refl _ _).alloc (Nat.le_refl _) _⟩
end Go.Proofs.Ytdmohidkighajaa
