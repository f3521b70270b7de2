/- Layer 3: Max, Mint, Hop, the reference's Number, Mint; sign. -/
import Derived.Test.YtjmdkhjfjlodmaaDoorEa
import Derived.Deep.CutRange
namespace Go.Proofs.YtjmdkhjfjlodmaaDoor
open Go.RowKit
set_option linter.unusedVariables false
set_option linter.unusedSimpArgs false

theorem ep_put {B b : Nat} {a w : World} {x y z : Value} (h : w.heap[b]? = some (.cells #[x, y, z] 24 (0, 0))) (hb : Below B a w) (hB : B ≤ b) (u v t : Value) :
    (((w.setCell ⟨b, 0, none⟩ u).setCell ⟨b, 1, none⟩ v).setCell ⟨b, 2, none⟩ t).heap[b]? = some (.cells #[u, v, t] 24 (0, 0)) ∧ Below B a (((w.setCell ⟨b, 0, none⟩ u).setCell ⟨b, 1, none⟩ v).setCell ⟨b, 2, none⟩ t) :=
  ⟨set_heap (set_heap (set_heap h 0 u) 1 v) 2 t, ((hb.setCell (p := ⟨b, 0, none⟩) hB u).setCell (p := ⟨b, 1, none⟩) hB v).setCell (p := ⟨b, 2, none⟩) hB t⟩

theorem rnum_any (x : Ep) (ok : x.ok) (w : World) :
    Calls Tryd.prog 16 #[.agg x.v] w fun e w' => e = .returned (.int .u64 x.num) ∧ Below w.heap.size w w' := by
  obtain ⟨a, b, c⟩ := x
  have h1 := ok.c; have h2 := ok.a; have h3 := ok.i
  unfold Ep.v Ep.num
  simp only at h1 h2 h3 ⊢
  go_enter Tryd.func16, Tryd.ntmps16
  go_wp2
  go_ret
  exact ⟨by simp, (Below.refl _ _).alloc (Nat.le_refl _) _⟩

theorem sign_any (x y : Nat) (w : World) :
    Calls Tryd.prog 17 #[.int .u64 x, .int .u64 y] w fun e w' => e = .returned (.int .i64 (cmpI x y)) ∧ w = w' := by
  unfold cmpI
  by_cases h1 : (x : Int) < y
  · rw [if_pos h1]
    go_enter Tryd.func17, Tryd.ntmps17
    go_wp2
    go_ret
    exact ⟨rfl, rfl⟩
  · rw [if_neg h1]
    by_cases h2 : (y : Int) < x
    · rw [if_pos h2]
      go_enter Tryd.func17, Tryd.ntmps17
      go_wp2
      go_ret
      exact ⟨rfl, rfl⟩
    · rw [if_neg h2]
      go_enter Tryd.func17, Tryd.ntmps17
      go_wp2
      go_ret
      exact ⟨rfl, rfl⟩

/-- What is minted. -/
def mintP (h : Ep) (a i : Nat) (limit : Int) : Ep × Bool := if min limit 65535 ≤ (h.c : Int) then (Ep.zero, false) else (⟨h.c + 1, a, i⟩, true)

set_option maxHeartbeats 1000000 in
theorem mint_any (h : Ep) (ok : h.ok) (a i : Nat) (limit : Int) (w : World) :
    Calls Tryd.prog 8 #[.agg h.v, .int .u8 a, .int .u16 i, .int .i64 limit] w fun e w' => e = .returned (.tuple #[.agg (mintP h a i limit).1.v, .bool (mintP h a i limit).2]) ∧ Below w.heap.size w w' := by
  obtain ⟨c, b, d⟩ := h
  have h1 := ok.c
  unfold mintP Ep.v
  simp only at h1 ⊢
  have bw : Below w.heap.size w ((w.alloc (.cells #[.int .u16 c, .int .u8 b, .int .u16 d] 24)).alloc (.cells #[.int .u16 0, .int .u8 0, .int .u16 0] 24)) := ((Below.refl _ _).alloc (Nat.le_refl _) _).alloc (by simp) _
  have hb0 := old_alloc (heap_alloc_new w (.cells #[.int .u16 c, .int .u8 b, .int .u16 d] 24)) (.cells #[.int .u16 0, .int .u8 0, .int .u16 0] 24)
  have hb1 := heap_alloc2_new w (.cells #[.int .u16 c, .int .u8 b, .int .u16 d] 24) (.cells #[.int .u16 0, .int .u8 0, .int .u16 0] 24)
  obtain ⟨w1, hw1⟩ : ∃ w1, (w.alloc (.cells #[.int .u16 c, .int .u8 b, .int .u16 d] 24)).alloc (.cells #[.int .u16 0, .int .u8 0, .int .u16 0] 24) = w1 := ⟨_, rfl⟩
  rw [hw1] at bw hb0 hb1
  have c0 : w1.cell? ⟨w.heap.size, 0, none⟩ = some (.int .u16 c) := blk_cell hb0 0
  have e0 : w1.cell? ⟨w.heap.size + 1, 0, none⟩ = some (.int .u16 0) := blk_cell hb1 0
  have e1 : w1.cell? ⟨w.heap.size + 1, 1, none⟩ = some (.int .u8 0) := blk_cell hb1 1
  have e2 : w1.cell? ⟨w.heap.size + 1, 2, none⟩ = some (.int .u16 0) := blk_cell hb1 2
  have f0 : w1.frozen? ⟨w.heap.size + 1, 0, none⟩ = false := blk_frozen hb1 0
  have f1 : w1.frozen? ⟨w.heap.size + 1, 1, none⟩ = false := blk_frozen hb1 1
  have f2 : w1.frozen? ⟨w.heap.size + 1, 2, none⟩ = false := blk_frozen hb1 2
  have BW := hide bw; have HB1 := hide hb1; have HW := hide hw1
  clear bw hb0 hb1 hw1
  have key : (limit < 65535 ∧ min limit 65535 = limit) ∨ limit = 65535 ∨ (65535 < limit ∧ min limit 65535 = 65535) := by omega
  rcases key with ⟨hl, hmn⟩ | rfl | ⟨hl, hmn⟩
  · rw [hmn]
    clear hmn
    by_cases hm : limit ≤ (c : Int)
    · rw [if_pos hm]
      go_enter Tryd.func8, Tryd.ntmps8
      go_upto_region 1 with (fail)
      rw [HW.out]
      go_wp2
      obtain ⟨hb9, b9⟩ := ep_put HB1.out BW.out (by omega) (.int .u16 0) (.int .u8 0) (.int .u16 0)
      generalize ((w1.setCell ⟨w.heap.size + 1, 0, none⟩ (.int .u16 0)).setCell ⟨w.heap.size + 1, 1, none⟩ (.int .u8 0)).setCell ⟨w.heap.size + 1, 2, none⟩ (.int .u16 0) = W8 at hb9 b9 ⊢
      have c80 : W8.cell? ⟨w.heap.size + 1, 0, none⟩ = some (.int .u16 0) := blk_cell hb9 0
      have c81 : W8.cell? ⟨w.heap.size + 1, 1, none⟩ = some (.int .u8 0) := blk_cell hb9 1
      have c82 : W8.cell? ⟨w.heap.size + 1, 2, none⟩ = some (.int .u16 0) := blk_cell hb9 2
      exact bodyPost_ret (v := .tuple #[.agg #[.int .u16 0, .int .u8 0, .int .u16 0], .bool false]) (by simp [results, Tryd.results8, go_sem, c80, c81, c82]) rfl ⟨rfl, b9⟩
    · rw [if_neg hm]
      have hc : (c : Int) < 65535 := by omega
      have wk : IntKind.u16.wrap ((c : Int) + 1) = (c : Int) + 1 := by rw [IntKind.wrap_u16]; omega
      go_enter Tryd.func8, Tryd.ntmps8
      go_upto_region 1 with (fail)
      rw [HW.out]
      go_wp2
      obtain ⟨hb9, b9⟩ := ep_put HB1.out BW.out (by omega) (.int .u16 ((c : Int) + 1)) (.int .u8 a) (.int .u16 i)
      generalize ((w1.setCell ⟨w.heap.size + 1, 0, none⟩ (.int .u16 ((c : Int) + 1))).setCell ⟨w.heap.size + 1, 1, none⟩ (.int .u8 a)).setCell ⟨w.heap.size + 1, 2, none⟩ (.int .u16 i) = W8 at hb9 b9 ⊢
      have c80 : W8.cell? ⟨w.heap.size + 1, 0, none⟩ = some (.int .u16 ((c : Int) + 1)) := blk_cell hb9 0
      have c81 : W8.cell? ⟨w.heap.size + 1, 1, none⟩ = some (.int .u8 a) := blk_cell hb9 1
      have c82 : W8.cell? ⟨w.heap.size + 1, 2, none⟩ = some (.int .u16 i) := blk_cell hb9 2
      exact bodyPost_ret (v := .tuple #[.agg #[.int .u16 ((c : Int) + 1), .int .u8 a, .int .u16 i], .bool true]) (by simp [results, Tryd.results8, go_sem, c80, c81, c82]) rfl ⟨rfl, b9⟩
  · rw [show min (65535 : Int) 65535 = 65535 from rfl]
    by_cases hm : (65535 : Int) ≤ (c : Int)
    · rw [if_pos hm]
      go_enter Tryd.func8, Tryd.ntmps8
      go_upto_region 1 with (fail)
      rw [HW.out]
      go_wp2
      obtain ⟨hb9, b9⟩ := ep_put HB1.out BW.out (by omega) (.int .u16 0) (.int .u8 0) (.int .u16 0)
      generalize ((w1.setCell ⟨w.heap.size + 1, 0, none⟩ (.int .u16 0)).setCell ⟨w.heap.size + 1, 1, none⟩ (.int .u8 0)).setCell ⟨w.heap.size + 1, 2, none⟩ (.int .u16 0) = W8 at hb9 b9 ⊢
      have c80 : W8.cell? ⟨w.heap.size + 1, 0, none⟩ = some (.int .u16 0) := blk_cell hb9 0
      have c81 : W8.cell? ⟨w.heap.size + 1, 1, none⟩ = some (.int .u8 0) := blk_cell hb9 1
      have c82 : W8.cell? ⟨w.heap.size + 1, 2, none⟩ = some (.int .u16 0) := blk_cell hb9 2
      exact bodyPost_ret (v := .tuple #[.agg #[.int .u16 0, .int .u8 0, .int .u16 0], .bool false]) (by simp [results, Tryd.results8, go_sem, c80, c81, c82]) rfl ⟨rfl, b9⟩
    · rw [if_neg hm]
      have hc : (c : Int) < 65535 := by omega
      have wk : IntKind.u16.wrap ((c : Int) + 1) = (c : Int) + 1 := by rw [IntKind.wrap_u16]; omega
      go_enter Tryd.func8, Tryd.ntmps8
      go_upto_region 1 with (fail)
      rw [HW.out]
      go_wp2
      obtain ⟨hb9, b9⟩ := ep_put HB1.out BW.out (by omega) (.int .u16 ((c : Int) + 1)) (.int .u8 a) (.int .u16 i)
      generalize ((w1.setCell ⟨w.heap.size + 1, 0, none⟩ (.int .u16 ((c : Int) + 1))).setCell ⟨w.heap.size + 1, 1, none⟩ (.int .u8 a)).setCell ⟨w.heap.size + 1, 2, none⟩ (.int .u16 i) = W8 at hb9 b9 ⊢
      have c80 : W8.cell? ⟨w.heap.size + 1, 0, none⟩ = some (.int .u16 ((c : Int) + 1)) := blk_cell hb9 0
      have c81 : W8.cell? ⟨w.heap.size + 1, 1, none⟩ = some (.int .u8 a) := blk_cell hb9 1
      have c82 : W8.cell? ⟨w.heap.size + 1, 2, none⟩ = some (.int .u16 i) := blk_cell hb9 2
      exact bodyPost_ret (v := .tuple #[.agg #[.int .u16 ((c : Int) + 1), .int .u8 a, .int .u16 i], .bool true]) (by simp [results, Tryd.results8, go_sem, c80, c81, c82]) rfl ⟨rfl, b9⟩
  · rw [hmn]
    clear hmn
    by_cases hm : (65535 : Int) ≤ (c : Int)
    · rw [if_pos hm]
      go_enter Tryd.func8, Tryd.ntmps8
      go_upto_region 1 with (fail)
      rw [HW.out]
      go_wp2
      obtain ⟨hb9, b9⟩ := ep_put HB1.out BW.out (by omega) (.int .u16 0) (.int .u8 0) (.int .u16 0)
      generalize ((w1.setCell ⟨w.heap.size + 1, 0, none⟩ (.int .u16 0)).setCell ⟨w.heap.size + 1, 1, none⟩ (.int .u8 0)).setCell ⟨w.heap.size + 1, 2, none⟩ (.int .u16 0) = W8 at hb9 b9 ⊢
      have c80 : W8.cell? ⟨w.heap.size + 1, 0, none⟩ = some (.int .u16 0) := blk_cell hb9 0
      have c81 : W8.cell? ⟨w.heap.size + 1, 1, none⟩ = some (.int .u8 0) := blk_cell hb9 1
      have c82 : W8.cell? ⟨w.heap.size + 1, 2, none⟩ = some (.int .u16 0) := blk_cell hb9 2
      exact bodyPost_ret (v := .tuple #[.agg #[.int .u16 0, .int .u8 0, .int .u16 0], .bool false]) (by simp [results, Tryd.results8, go_sem, c80, c81, c82]) rfl ⟨rfl, b9⟩
    · rw [if_neg hm]
      have hc : (c : Int) < 65535 := by omega
      have wk : IntKind.u16.wrap ((c : Int) + 1) = (c : Int) + 1 := by rw [IntKind.wrap_u16]; omega
      go_enter Tryd.func8, Tryd.ntmps8
      go_upto_region 1 with (fail)
      rw [HW.out]
      go_wp2
      obtain ⟨hb9, b9⟩ := ep_put HB1.out BW.out (by omega) (.int .u16 ((c : Int) + 1)) (.int .u8 a) (.int .u16 i)
      generalize ((w1.setCell ⟨w.heap.size + 1, 0, none⟩ (.int .u16 ((c : Int) + 1))).setCell ⟨w.heap.size + 1, 1, none⟩ (.int .u8 a)).setCell ⟨w.heap.size + 1, 2, none⟩ (.int .u16 i) = W8 at hb9 b9 ⊢
      have c80 : W8.cell? ⟨w.heap.size + 1, 0, none⟩ = some (.int .u16 ((c : Int) + 1)) := blk_cell hb9 0
      have c81 : W8.cell? ⟨w.heap.size + 1, 1, none⟩ = some (.int .u8 a) := blk_cell hb9 1
      have c82 : W8.cell? ⟨w.heap.size + 1, 2, none⟩ = some (.int .u16 i) := blk_cell hb9 2
      exact bodyPost_ret (v := .tuple #[.agg #[.int .u16 ((c : Int) + 1), .int .u8 a, .int .u16 i], .bool true]) (by simp [results, Tryd.results8, go_sem, c80, c81, c82]) rfl ⟨rfl, b9⟩
end Go.Proofs.YtjmdkhjfjlodmaaDoor
