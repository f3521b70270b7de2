/- Layer 3: Newer, the reference's Mark. -/
import Derived.Test.YtjmdkhjfjlodmaaDoorEd
namespace Go.Proofs.YtjmdkhjfjlodmaaDoor
open Go.RowKit
set_option linter.unusedVariables false
set_option linter.unusedSimpArgs false

set_option maxHeartbeats 4000000 in
theorem newer_any (x y : Mk) (w : World) :
    Calls Tryd.prog 15 #[.agg x.v, .agg y.v] w fun e w' => e = .returned (.bool (decide (0 < x.cmp y))) ∧ Below w.heap.size w w' := by
  unfold Mk.cmp
  obtain ⟨r, hr⟩ : ∃ r, x.e.cmp y.e = r := ⟨_, rfl⟩
  have HC := hide (fun W => ecmp_any x.e y.e W)
  rw [hr] at HC ⊢
  clear hr
  obtain ⟨⟨a, b, c⟩, d⟩ := x
  obtain ⟨⟨f, g, h⟩, i⟩ := y
  unfold Mk.v
  unfold Ep.v at HC
  simp only at HC ⊢
  obtain ⟨w1, hw1⟩ : ∃ w1, (w.alloc (.cells #[.int .u16 a, .int .u8 b, .int .u16 c, .int .u16 d] 35)).alloc (.cells #[.int .u16 f, .int .u8 g, .int .u16 h, .int .u16 i] 35) = w1 := ⟨_, rfl⟩
  have hs0 : w1.heap[w.heap.size]? = some (.cells #[.int .u16 a, .int .u8 b, .int .u16 c, .int .u16 d] 35 (0, 0)) := by rw [← hw1]; exact old_alloc (heap_alloc_new w _) _
  have hs1 : w1.heap[w.heap.size + 1]? = some (.cells #[.int .u16 f, .int .u8 g, .int .u16 h, .int .u16 i] 35 (0, 0)) := by rw [← hw1]; exact heap_alloc2_new w _ _
  have b1 : Below w.heap.size w w1 := by rw [← hw1]; exact ((Below.refl _ _).alloc (Nat.le_refl _) _).alloc (by simp) _
  have c0 : w1.cell? ⟨w.heap.size, 0, none⟩ = some (.int .u16 a) := blk_cell hs0 0
  have c1 : w1.cell? ⟨w.heap.size, 1, none⟩ = some (.int .u8 b) := blk_cell hs0 1
  have c2 : w1.cell? ⟨w.heap.size, 2, none⟩ = some (.int .u16 c) := blk_cell hs0 2
  have c3 : w1.cell? ⟨w.heap.size, 3, none⟩ = some (.int .u16 d) := blk_cell hs0 3
  have d0 : w1.cell? ⟨w.heap.size + 1, 0, none⟩ = some (.int .u16 f) := blk_cell hs1 0
  have d1 : w1.cell? ⟨w.heap.size + 1, 1, none⟩ = some (.int .u8 g) := blk_cell hs1 1
  have d2 : w1.cell? ⟨w.heap.size + 1, 2, none⟩ = some (.int .u16 h) := blk_cell hs1 2
  have d3 : w1.cell? ⟨w.heap.size + 1, 3, none⟩ = some (.int .u16 i) := blk_cell hs1 3
  have hl0 : w.heap.size < w1.heap.size := (Array.getElem?_eq_some_iff.1 hs0).1
  have hl1 : w.heap.size + 1 < w1.heap.size := (Array.getElem?_eq_some_iff.1 hs1).1
  have HW := hide hw1; have B1 := hide b1
  clear hw1 b1 hs0 hs1
  go_enter Tryd.func15, Tryd.ntmps15
  go_upto_region 1 with (fail)
  rw [HW.out]
  go_region_held3 (fun w' => (∀ b o, b < w1.heap.size → w'.cell? ⟨b, o, none⟩ = w1.cell? ⟨b, o, none⟩) ∧ Below w1.heap.size w1 w')
    (first | exact BS.drew _ | assumption | exact BS.go (by assumption) (by assumption) | exact BS.go (by assumption) ((Below.refl _ _).alloc (Nat.le_refl _) _))
    (first
      | (go_at_call 9; (with_reducible refine (HC.out _).mono ?_); rintro e w' ⟨rfl, hbw⟩)
      | (go_at_call 22; refine (c16_any _ _ _).mono ?_; rintro e w' ⟨rfl, rfl⟩)
      | (go_at_call 21; refine (or_two _ r (cmpI d i) _ ?_ ?_).mono ?_; simp; simp; rintro e w' ⟨rfl, rfl⟩))
  obtain ⟨_, hB⟩ := ‹(∀ b o, b < w1.heap.size → _) ∧ Below w1.heap.size w1 _›
  have HB := hide (B1.out.trans (hB.mono B1.out.size))
  clear hB
  go_wp2
  go_ret
  exact ⟨rfl, HB.out⟩

theorem Ep.num_lt {x : Ep} (ok : x.ok) : x.num < 1099511627776 := by
  have := ok.c; have := ok.a; have := ok.i
  unfold Ep.num; omega

set_option maxHeartbeats 4000000 in
theorem rmark_any (x : Mk) (ok : x.ok) (w : World) :
    Calls Tryd.prog 19 #[.agg x.v] w fun e w' => e = .returned (.int .u64 x.num) ∧ Below w.heap.size w w' := by
  unfold Mk.num
  have hr2 := Ep.num_lt ok.e
  have hd := ok.h
  obtain ⟨r, hr⟩ : ∃ r, x.e.num = r := ⟨_, rfl⟩
  have HC := hide (fun W => rnum_any x.e ok.e W)
  rw [hr] at HC hr2 ⊢
  clear hr ok
  obtain ⟨⟨a, b, c⟩, d⟩ := x
  unfold Mk.v
  unfold Ep.v at HC
  simp only at HC hd ⊢
  obtain ⟨w1, hw1⟩ : ∃ w1, w.alloc (.cells #[.int .u16 a, .int .u8 b, .int .u16 c, .int .u16 d] 35) = w1 := ⟨_, rfl⟩
  have hs0 : w1.heap[w.heap.size]? = some (.cells #[.int .u16 a, .int .u8 b, .int .u16 c, .int .u16 d] 35 (0, 0)) := by rw [← hw1]; exact heap_alloc_new w _
  have b1 : Below w.heap.size w w1 := by rw [← hw1]; exact (Below.refl _ _).alloc (Nat.le_refl _) _
  have c0 : w1.cell? ⟨w.heap.size, 0, none⟩ = some (.int .u16 a) := blk_cell hs0 0
  have c1 : w1.cell? ⟨w.heap.size, 1, none⟩ = some (.int .u8 b) := blk_cell hs0 1
  have c2 : w1.cell? ⟨w.heap.size, 2, none⟩ = some (.int .u16 c) := blk_cell hs0 2
  have c3 : w1.cell? ⟨w.heap.size, 3, none⟩ = some (.int .u16 d) := blk_cell hs0 3
  have hl0 : w.heap.size < w1.heap.size := (Array.getElem?_eq_some_iff.1 hs0).1
  have m1 : IntKind.u64.wrap ((r : Int) * 65536) = (r : Int) * 65536 := by rw [IntKind.wrap_u64]; omega
  have m2 : IntKind.u64.wrap (d : Int) = (d : Int) := by rw [IntKind.wrap_u64]; omega
  have m3 : IntKind.u64.wrap ((r : Int) * 65536 + (d : Int)) = (r : Int) * 65536 + (d : Int) := by rw [IntKind.wrap_u64]; omega
  have HW := hide hw1; have B1 := hide b1
  clear hw1 b1 hs0
  go_enter Tryd.func19, Tryd.ntmps19
  go_upto_region 1 with (fail)
  rw [HW.out]
  go_region_held3 (fun w' => (∀ b o, b < w1.heap.size → w'.cell? ⟨b, o, none⟩ = w1.cell? ⟨b, o, none⟩) ∧ Below w1.heap.size w1 w')
    (first | exact BS.drew _ | assumption | exact BS.go (by assumption) (by assumption))
    (first
      | (go_at_call 16; (with_reducible refine (HC.out _).mono ?_); rintro e w' ⟨rfl, hbw⟩))
  obtain ⟨_, hB⟩ := ‹(∀ b o, b < w1.heap.size → _) ∧ Below w1.heap.size w1 _›
  have HB := hide (B1.out.trans (hB.mono B1.out.size))
  clear hB
  go_wp2
  go_ret
  exact ⟨by simp, HB.out⟩
end Go.Proofs.YtjmdkhjfjlodmaaDoor
