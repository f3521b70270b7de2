/- Layer 3: marks: Hop, Newer, the reference's Mark. -/
import Derived.Test.YtjmdkhjfjlodmaaDoorEc
namespace Go.Proofs.YtjmdkhjfjlodmaaDoor
open Go.RowKit
set_option linter.unusedVariables false
set_option linter.unusedSimpArgs false

abbrev BS (w w' : World) : Prop := (∀ b o, b < w.heap.size → w'.cell? ⟨b, o, none⟩ = w.cell? ⟨b, o, none⟩) ∧ Below w.heap.size w w'
theorem BS.of {w w' : World} (h : Below w.heap.size w w') : BS w w' := ⟨fun b o hb => h.cell (p := ⟨b, o, none⟩) hb, h⟩
theorem BS.go {w W W' : World} (h : BS w W) (b : Below W.heap.size W W') : BS w W' := BS.of (h.2.trans (b.mono h.2.size))
theorem below_drewN {B : Nat} {a w : World} (h : Below B a w) (n : Nat) : Below B a (w.drewN n) := ⟨h.os, h.tape, h.output, h.size, h.block⟩
theorem BS.drew (w : World) : BS w w.drew := BS.of (below_drewN (Below.refl _ _) 1)

/-- A mark. -/
structure Mk where
  e : Ep
  h : Nat
structure Mk.ok (m : Mk) : Prop where
  e : m.e.ok
  h : m.h < 65536
def Mk.v (m : Mk) : Array Value := #[.int .u16 m.e.c, .int .u8 m.e.a, .int .u16 m.e.i, .int .u16 m.h]
def Mk.zero : Mk := ⟨Ep.zero, 0⟩
def Mk.num (m : Mk) : Nat := m.e.num * 65536 + m.h
def Mk.cmp (x y : Mk) : Int := orI (x.e.cmp y.e) (cmpI x.h y.h)
theorem Mk.cmp_pos {x y : Mk} (hx : x.ok) (hy : y.ok) : 0 < x.cmp y ↔ y.num < x.num := by
  have h1 := Ep.cmp_pos hx.e hy.e
  have h2 := Ep.cmp_neg hx.e hy.e
  have := hx.h; have := hy.h
  unfold Mk.cmp Mk.num orI
  by_cases h0 : x.e.cmp y.e = 0
  · rw [if_pos h0]
    unfold cmpI
    (repeat' split) <;> constructor <;> intro h <;> omega
  · rw [if_neg h0]
    constructor <;> intro h <;> omega

theorem mk_put {B b : Nat} {a w : World} {x y z q : Value} (h : w.heap[b]? = some (.cells #[x, y, z, q] 35 (0, 0))) (hb : Below B a w) (hB : B ≤ b) (u v t r : Value) :
    ((((w.setCell ⟨b, 0, none⟩ u).setCell ⟨b, 1, none⟩ v).setCell ⟨b, 2, none⟩ t).setCell ⟨b, 3, none⟩ r).heap[b]? = some (.cells #[u, v, t, r] 35 (0, 0)) ∧ Below B a ((((w.setCell ⟨b, 0, none⟩ u).setCell ⟨b, 1, none⟩ v).setCell ⟨b, 2, none⟩ t).setCell ⟨b, 3, none⟩ r) :=
  ⟨set_heap (set_heap (set_heap (set_heap h 0 u) 1 v) 2 t) 3 r, (((hb.setCell (p := ⟨b, 0, none⟩) hB u).setCell (p := ⟨b, 1, none⟩) hB v).setCell (p := ⟨b, 2, none⟩) hB t).setCell (p := ⟨b, 3, none⟩) hB r⟩

set_option maxHeartbeats 2000000 in
theorem hop_max (m : Mk) (hm : m.h = 65535) (w : World) :
    Calls Tryd.prog 14 #[.agg m.v] w fun e w' => e = .returned (.tuple #[.agg #[.int .u16 0, .int .u8 0, .int .u16 0, .int .u16 0], .bool false]) ∧ Below w.heap.size w w' := by
  obtain ⟨⟨a, b, c⟩, d⟩ := m
  unfold Mk.v
  simp only at hm ⊢
  obtain ⟨w1, hw1⟩ : ∃ w1, (w.alloc (.cells #[.int .u16 a, .int .u8 b, .int .u16 c, .int .u16 d] 35)).alloc (.cells #[.int .u16 0, .int .u8 0, .int .u16 0, .int .u16 0] 35) = w1 := ⟨_, rfl⟩
  have hs0 : w1.heap[w.heap.size]? = some (.cells #[.int .u16 a, .int .u8 b, .int .u16 c, .int .u16 d] 35 (0, 0)) := by rw [← hw1]; exact old_alloc (heap_alloc_new w _) _
  have hs1 : w1.heap[w.heap.size + 1]? = some (.cells #[.int .u16 0, .int .u8 0, .int .u16 0, .int .u16 0] 35 (0, 0)) := by rw [← hw1]; exact heap_alloc2_new w _ _
  have b1 : Below w.heap.size w w1 := by rw [← hw1]; exact ((Below.refl _ _).alloc (Nat.le_refl _) _).alloc (by simp) _
  have c3 : w1.cell? ⟨w.heap.size, 3, none⟩ = some (.int .u16 d) := blk_cell hs0 3
  have e0 : w1.cell? ⟨w.heap.size + 1, 0, none⟩ = some (.int .u16 0) := blk_cell hs1 0
  have e1 : w1.cell? ⟨w.heap.size + 1, 1, none⟩ = some (.int .u8 0) := blk_cell hs1 1
  have e2 : w1.cell? ⟨w.heap.size + 1, 2, none⟩ = some (.int .u16 0) := blk_cell hs1 2
  have e3 : w1.cell? ⟨w.heap.size + 1, 3, none⟩ = some (.int .u16 0) := blk_cell hs1 3
  have f0 : w1.frozen? ⟨w.heap.size + 1, 0, none⟩ = false := blk_frozen hs1 0
  have f1 : w1.frozen? ⟨w.heap.size + 1, 1, none⟩ = false := blk_frozen hs1 1
  have f2 : w1.frozen? ⟨w.heap.size + 1, 2, none⟩ = false := blk_frozen hs1 2
  have f3 : w1.frozen? ⟨w.heap.size + 1, 3, none⟩ = false := blk_frozen hs1 3
  have hd : ((d : Int) == 65535) = true := by simp; omega
  have HW := hide hw1; have B1 := hide b1; have S1 := hide hs1
  clear hw1 b1 hs0 hs1 hm
  go_enter Tryd.func14, Tryd.ntmps14
  go_upto_region 1 with (fail)
  rw [HW.out]
  go_wp2
  obtain ⟨hb9, b9⟩ := mk_put S1.out B1.out (by omega) (.int .u16 0) (.int .u8 0) (.int .u16 0) (.int .u16 0)
  generalize (((w1.setCell ⟨w.heap.size + 1, 0, none⟩ (.int .u16 0)).setCell ⟨w.heap.size + 1, 1, none⟩ (.int .u8 0)).setCell ⟨w.heap.size + 1, 2, none⟩ (.int .u16 0)).setCell ⟨w.heap.size + 1, 3, none⟩ (.int .u16 0) = W8 at hb9 b9 ⊢
  have c80 : W8.cell? ⟨w.heap.size + 1, 0, none⟩ = some (.int .u16 0) := blk_cell hb9 0
  have c81 : W8.cell? ⟨w.heap.size + 1, 1, none⟩ = some (.int .u8 0) := blk_cell hb9 1
  have c82 : W8.cell? ⟨w.heap.size + 1, 2, none⟩ = some (.int .u16 0) := blk_cell hb9 2
  have c83 : W8.cell? ⟨w.heap.size + 1, 3, none⟩ = some (.int .u16 0) := blk_cell hb9 3
  exact bodyPost_ret (v := .tuple #[.agg #[.int .u16 0, .int .u8 0, .int .u16 0, .int .u16 0], .bool false]) (by simp [results, Tryd.results14, go_sem, c80, c81, c82, c83]) rfl ⟨rfl, b9⟩

set_option maxHeartbeats 2000000 in
theorem hop_more (m : Mk) (hm : m.h < 65535) (w : World) :
    Calls Tryd.prog 14 #[.agg m.v] w fun e w' => e = .returned (.tuple #[.agg (Mk.v ⟨m.e, m.h + 1⟩), .bool true]) ∧ Below w.heap.size w w' := by
  obtain ⟨⟨a, b, c⟩, d⟩ := m
  unfold Mk.v
  simp only at hm ⊢
  obtain ⟨w1, hw1⟩ : ∃ w1, (w.alloc (.cells #[.int .u16 a, .int .u8 b, .int .u16 c, .int .u16 d] 35)).alloc (.cells #[.int .u16 0, .int .u8 0, .int .u16 0, .int .u16 0] 35) = w1 := ⟨_, rfl⟩
  have hs0 : w1.heap[w.heap.size]? = some (.cells #[.int .u16 a, .int .u8 b, .int .u16 c, .int .u16 d] 35 (0, 0)) := by rw [← hw1]; exact old_alloc (heap_alloc_new w _) _
  have hs1 : w1.heap[w.heap.size + 1]? = some (.cells #[.int .u16 0, .int .u8 0, .int .u16 0, .int .u16 0] 35 (0, 0)) := by rw [← hw1]; exact heap_alloc2_new w _ _
  have b1 : Below w.heap.size w w1 := by rw [← hw1]; exact ((Below.refl _ _).alloc (Nat.le_refl _) _).alloc (by simp) _
  have c3 : w1.cell? ⟨w.heap.size, 3, none⟩ = some (.int .u16 d) := blk_cell hs0 3
  have g3 : w1.frozen? ⟨w.heap.size, 3, none⟩ = false := blk_frozen hs0 3
  have hd : ((d : Int) == 65535) = false := by simp; omega
  have wk : IntKind.u16.wrap ((d : Int) + 1) = (d : Int) + 1 := by rw [IntKind.wrap_u16]; omega
  have HW := hide hw1; have B1 := hide b1; have S0 := hide hs0; have S1 := hide hs1
  clear hw1 b1 hs0 hs1 hm
  go_enter Tryd.func14, Tryd.ntmps14
  go_upto_region 1 with (fail)
  rw [HW.out]
  go_upto_region 4 with (fail)
  obtain ⟨w2, hw2⟩ : ∃ w2, w1.setCell ⟨w.heap.size, 3, none⟩ (.int .u16 ((d : Int) + 1)) = w2 := ⟨_, rfl⟩
  have hs0 : w2.heap[w.heap.size]? = some (.cells #[.int .u16 a, .int .u8 b, .int .u16 c, .int .u16 ((d : Int) + 1)] 35 (0, 0)) := by rw [← hw2]; exact set_heap S0.out 3 _
  have hs1 : w2.heap[w.heap.size + 1]? = some (.cells #[.int .u16 0, .int .u8 0, .int .u16 0, .int .u16 0] 35 (0, 0)) := by rw [← hw2, set_other _ _ (by omega)]; exact S1.out
  have b2 : Below w.heap.size w w2 := by rw [← hw2]; exact B1.out.setCell (p := ⟨w.heap.size, 3, none⟩) (Nat.le_refl _) _
  rw [hw2]
  clear hw2 c3 g3
  have c0 : w2.cell? ⟨w.heap.size, 0, none⟩ = some (.int .u16 a) := blk_cell hs0 0
  have c1 : w2.cell? ⟨w.heap.size, 1, none⟩ = some (.int .u8 b) := blk_cell hs0 1
  have c2 : w2.cell? ⟨w.heap.size, 2, none⟩ = some (.int .u16 c) := blk_cell hs0 2
  have c3 : w2.cell? ⟨w.heap.size, 3, none⟩ = some (.int .u16 ((d : Int) + 1)) := blk_cell hs0 3
  have e0 : w2.cell? ⟨w.heap.size + 1, 0, none⟩ = some (.int .u16 0) := blk_cell hs1 0
  have e1 : w2.cell? ⟨w.heap.size + 1, 1, none⟩ = some (.int .u8 0) := blk_cell hs1 1
  have e2 : w2.cell? ⟨w.heap.size + 1, 2, none⟩ = some (.int .u16 0) := blk_cell hs1 2
  have e3 : w2.cell? ⟨w.heap.size + 1, 3, none⟩ = some (.int .u16 0) := blk_cell hs1 3
  have f0 : w2.frozen? ⟨w.heap.size + 1, 0, none⟩ = false := blk_frozen hs1 0
  have f1 : w2.frozen? ⟨w.heap.size + 1, 1, none⟩ = false := blk_frozen hs1 1
  have f2 : w2.frozen? ⟨w.heap.size + 1, 2, none⟩ = false := blk_frozen hs1 2
  have f3 : w2.frozen? ⟨w.heap.size + 1, 3, none⟩ = false := blk_frozen hs1 3
  have B2 := hide b2; have T1 := hide hs1
  clear b2 hs0 hs1
  go_wp2
  obtain ⟨hb9, b9⟩ := mk_put T1.out B2.out (by omega) (.int .u16 a) (.int .u8 b) (.int .u16 c) (.int .u16 ((d : Int) + 1))
  generalize (((w2.setCell ⟨w.heap.size + 1, 0, none⟩ (.int .u16 a)).setCell ⟨w.heap.size + 1, 1, none⟩ (.int .u8 b)).setCell ⟨w.heap.size + 1, 2, none⟩ (.int .u16 c)).setCell ⟨w.heap.size + 1, 3, none⟩ (.int .u16 ((d : Int) + 1)) = W8 at hb9 b9 ⊢
  have c80 : W8.cell? ⟨w.heap.size + 1, 0, none⟩ = some (.int .u16 a) := blk_cell hb9 0
  have c81 : W8.cell? ⟨w.heap.size + 1, 1, none⟩ = some (.int .u8 b) := blk_cell hb9 1
  have c82 : W8.cell? ⟨w.heap.size + 1, 2, none⟩ = some (.int .u16 c) := blk_cell hb9 2
  have c83 : W8.cell? ⟨w.heap.size + 1, 3, none⟩ = some (.int .u16 ((d : Int) + 1)) := blk_cell hb9 3
  exact bodyPost_ret (v := .tuple #[.agg #[.int .u16 a, .int .u8 b, .int .u16 c, .int .u16 ((d : Int) + 1)], .bool true]) (by simp [results, Tryd.results14, go_sem, c80, c81, c82, c83]) rfl ⟨rfl, b9⟩
end Go.Proofs.YtjmdkhjfjlodmaaDoor
