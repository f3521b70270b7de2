/- Layer 3: Max, Hop, the reference's Mint. -/
import Derived.Test.YtjmdkhjfjlodmaaDoorEb
namespace Go.Proofs.YtjmdkhjfjlodmaaDoor
open Go.RowKit
set_option linter.unusedVariables false
set_option linter.unusedSimpArgs false

def Ep.max (x y : Ep) : Ep := if x.cmp y < 0 then y else x

set_option maxHeartbeats 2000000 in
theorem emax_any (x y : Ep) (w : World) :
    Calls Tryd.prog 18 #[.agg x.v, .agg y.v] w fun e w' => e = .returned (.agg (x.max y).v) ∧ Below w.heap.size w w' := by
  unfold Ep.max
  obtain ⟨r, hr⟩ : ∃ r, x.cmp y = r := ⟨_, rfl⟩
  have HC := hide (fun W => ecmp_any x y W)
  rw [hr] at HC ⊢
  clear hr
  obtain ⟨a, b, c⟩ := x
  obtain ⟨d, f, g⟩ := y
  unfold Ep.v at HC ⊢
  simp only at HC ⊢
  obtain ⟨w1, hw1⟩ : ∃ w1, ((w.alloc (.cells #[.int .u16 a, .int .u8 b, .int .u16 c] 24)).alloc (.cells #[.int .u16 d, .int .u8 f, .int .u16 g] 24)).alloc (.cells #[.int .u16 0, .int .u8 0, .int .u16 0] 24) = w1 := ⟨_, rfl⟩
  have hs0 : w1.heap[w.heap.size]? = some (.cells #[.int .u16 a, .int .u8 b, .int .u16 c] 24 (0, 0)) := by rw [← hw1]; exact old_alloc (old_alloc (heap_alloc_new w _) _) _
  have hs1 : w1.heap[w.heap.size + 1]? = some (.cells #[.int .u16 d, .int .u8 f, .int .u16 g] 24 (0, 0)) := by rw [← hw1]; exact old_alloc (heap_alloc2_new w _ _) _
  have hs2 : w1.heap[w.heap.size + 1 + 1]? = some (.cells #[.int .u16 0, .int .u8 0, .int .u16 0] 24 (0, 0)) := by rw [← hw1]; exact new_alloc _ trivial (by simp)
  have b1 : Below w.heap.size w w1 := by rw [← hw1]; exact (((Below.refl _ _).alloc (Nat.le_refl _) _).alloc (by simp) _).alloc (by simp; omega) _
  have c0 : w1.cell? ⟨w.heap.size, 0, none⟩ = some (.int .u16 a) := blk_cell hs0 0
  have c1 : w1.cell? ⟨w.heap.size, 1, none⟩ = some (.int .u8 b) := blk_cell hs0 1
  have c2 : w1.cell? ⟨w.heap.size, 2, none⟩ = some (.int .u16 c) := blk_cell hs0 2
  have d0 : w1.cell? ⟨w.heap.size + 1, 0, none⟩ = some (.int .u16 d) := blk_cell hs1 0
  have d1 : w1.cell? ⟨w.heap.size + 1, 1, none⟩ = some (.int .u8 f) := blk_cell hs1 1
  have d2 : w1.cell? ⟨w.heap.size + 1, 2, none⟩ = some (.int .u16 g) := blk_cell hs1 2
  have HW := hide hw1; have B1 := hide b1; have S0 := hide hs0; have S1 := hide hs1; have S2 := hide hs2
  clear hw1 b1 hs0 hs1 hs2
  go_enter Tryd.func18, Tryd.ntmps18
  go_upto_region 1 with (fail)
  rw [HW.out]
  go_wp2_with fail
  refine (HC.out _).mono ?_
  rintro e w2 ⟨rfl, b2⟩
  have hs0 := (b2.block _ (Array.getElem?_eq_some_iff.1 S0.out).1).trans S0.out
  have hs1 := (b2.block _ (Array.getElem?_eq_some_iff.1 S1.out).1).trans S1.out
  have hs2 := (b2.block _ (Array.getElem?_eq_some_iff.1 S2.out).1).trans S2.out
  have B2 := hide (B1.out.trans (b2.mono B1.out.size))
  clear c0 c1 c2 d0 d1 d2 b2
  have c0 : w2.cell? ⟨w.heap.size, 0, none⟩ = some (.int .u16 a) := blk_cell hs0 0
  have c1 : w2.cell? ⟨w.heap.size, 1, none⟩ = some (.int .u8 b) := blk_cell hs0 1
  have c2 : w2.cell? ⟨w.heap.size, 2, none⟩ = some (.int .u16 c) := blk_cell hs0 2
  have d0 : w2.cell? ⟨w.heap.size + 1, 0, none⟩ = some (.int .u16 d) := blk_cell hs1 0
  have d1 : w2.cell? ⟨w.heap.size + 1, 1, none⟩ = some (.int .u8 f) := blk_cell hs1 1
  have d2 : w2.cell? ⟨w.heap.size + 1, 2, none⟩ = some (.int .u16 g) := blk_cell hs1 2
  have e0 : w2.cell? ⟨w.heap.size + 1 + 1, 0, none⟩ = some (.int .u16 0) := blk_cell hs2 0
  have e1 : w2.cell? ⟨w.heap.size + 1 + 1, 1, none⟩ = some (.int .u8 0) := blk_cell hs2 1
  have e2 : w2.cell? ⟨w.heap.size + 1 + 1, 2, none⟩ = some (.int .u16 0) := blk_cell hs2 2
  have f0 : w2.frozen? ⟨w.heap.size + 1 + 1, 0, none⟩ = false := blk_frozen hs2 0
  have f1 : w2.frozen? ⟨w.heap.size + 1 + 1, 1, none⟩ = false := blk_frozen hs2 1
  have f2 : w2.frozen? ⟨w.heap.size + 1 + 1, 2, none⟩ = false := blk_frozen hs2 2
  have T2 := hide hs2
  clear hs0 hs1 hs2
  by_cases hlt : r < 0
  · have HLT := hide hlt
    go_wp2
    obtain ⟨hb9, b9⟩ := ep_put T2.out B2.out (by omega) (.int .u16 d) (.int .u8 f) (.int .u16 g)
    generalize ((w2.setCell ⟨w.heap.size + 1 + 1, 0, none⟩ (.int .u16 d)).setCell ⟨w.heap.size + 1 + 1, 1, none⟩ (.int .u8 f)).setCell ⟨w.heap.size + 1 + 1, 2, none⟩ (.int .u16 g) = W8 at hb9 b9 ⊢
    have c80 : W8.cell? ⟨w.heap.size + 1 + 1, 0, none⟩ = some (.int .u16 d) := blk_cell hb9 0
    have c81 : W8.cell? ⟨w.heap.size + 1 + 1, 1, none⟩ = some (.int .u8 f) := blk_cell hb9 1
    have c82 : W8.cell? ⟨w.heap.size + 1 + 1, 2, none⟩ = some (.int .u16 g) := blk_cell hb9 2
    exact bodyPost_ret (v := .agg #[.int .u16 d, .int .u8 f, .int .u16 g]) (by simp [results, Tryd.results18, go_sem, c80, c81, c82]) rfl ⟨rfl, b9⟩
  · have HLT := hide hlt
    go_wp2
    obtain ⟨hb9, b9⟩ := ep_put T2.out B2.out (by omega) (.int .u16 a) (.int .u8 b) (.int .u16 c)
    generalize ((w2.setCell ⟨w.heap.size + 1 + 1, 0, none⟩ (.int .u16 a)).setCell ⟨w.heap.size + 1 + 1, 1, none⟩ (.int .u8 b)).setCell ⟨w.heap.size + 1 + 1, 2, none⟩ (.int .u16 c) = W8 at hb9 b9 ⊢
    have c80 : W8.cell? ⟨w.heap.size + 1 + 1, 0, none⟩ = some (.int .u16 a) := blk_cell hb9 0
    have c81 : W8.cell? ⟨w.heap.size + 1 + 1, 1, none⟩ = some (.int .u8 b) := blk_cell hb9 1
    have c82 : W8.cell? ⟨w.heap.size + 1 + 1, 2, none⟩ = some (.int .u16 c) := blk_cell hb9 2
    exact bodyPost_ret (v := .agg #[.int .u16 a, .int .u8 b, .int .u16 c]) (by simp [results, Tryd.results18, go_sem, c80, c81, c82]) rfl ⟨rfl, b9⟩

/-- The reference's Mint: the same. -/
theorem mintP_R {h : Ep} (ok : h.ok) (a i : Nat) (limit : Int) : mintP h a i limit = (if limit ≤ (h.c : Int) ∨ h.c = 65535 then (Ep.zero, false) else (⟨h.c + 1, a, i⟩, true)) := by
  have := ok.c
  unfold mintP
  by_cases h1 : limit ≤ (h.c : Int) ∨ h.c = 65535
  · rw [if_pos h1, if_pos (by omega)]
  · rw [if_neg h1, if_neg (by omega)]

set_option maxHeartbeats 1000000 in
theorem rmint_any (h : Ep) (ok : h.ok) (a i : Nat) (limit : Int) (w : World) :
    Calls Tryd.prog 13 #[.agg h.v, .int .u8 a, .int .u16 i, .int .i64 limit] w fun e w' => e = .returned (.tuple #[.agg (mintP h a i limit).1.v, .bool (mintP h a i limit).2]) ∧ Below w.heap.size w w' := by
  rw [mintP_R ok]
  obtain ⟨c, b, d⟩ := h
  have h1 := ok.c
  unfold Ep.v
  simp only at h1 ⊢
  have bw : Below w.heap.size w ((w.alloc (.cells #[.int .u16 c, .int .u8 b, .int .u16 d] 24)).alloc (.cells #[.int .u16 0, .int .u8 0, .int .u16 0] 24)) := ((Below.refl _ _).alloc (Nat.le_refl _) _).alloc (by simp) _
  have hb0 := old_alloc (heap_alloc_new w (.cells #[.int .u16 c, .int .u8 b, .int .u16 d] 24)) (.cells #[.int .u16 0, .int .u8 0, .int .u16 0] 24)
  have hb1 := heap_alloc2_new w (.cells #[.int .u16 c, .int .u8 b, .int .u16 d] 24) (.cells #[.int .u16 0, .int .u8 0, .int .u16 0] 24)
  obtain ⟨w1, hw1⟩ : ∃ w1, (w.alloc (.cells #[.int .u16 c, .int .u8 b, .int .u16 d] 24)).alloc (.cells #[.int .u16 0, .int .u8 0, .int .u16 0] 24) = w1 := ⟨_, rfl⟩
  rw [hw1] at bw hb0 hb1
  have c0 : w1.cell? ⟨w.heap.size, 0, none⟩ = some (.int .u16 c) := blk_cell hb0 0
  have e0 : w1.cell? ⟨w.heap.size + 1, 0, none⟩ = some (.int .u16 0) := blk_cell hb1 0
  have e1 : w1.cell? ⟨w.heap.size + 1, 1, none⟩ = some (.int .u8 0) := blk_cell hb1 1
  have e2 : w1.cell? ⟨w.heap.size + 1, 2, none⟩ = some (.int .u16 0) := blk_cell hb1 2
  have f0 : w1.frozen? ⟨w.heap.size + 1, 0, none⟩ = false := blk_frozen hb1 0
  have f1 : w1.frozen? ⟨w.heap.size + 1, 1, none⟩ = false := blk_frozen hb1 1
  have f2 : w1.frozen? ⟨w.heap.size + 1, 2, none⟩ = false := blk_frozen hb1 2
  have BW := hide bw; have HB1 := hide hb1; have HW := hide hw1
  clear bw hb0 hb1 hw1
  have zero : ∀ (hc : (limit ≤ (c : Int)) ∨ (¬ limit ≤ (c : Int) ∧ c = 65535)), Calls Tryd.prog 13 #[.agg #[.int .u16 c, .int .u8 b, .int .u16 d], .int .u8 a, .int .u16 i, .int .i64 limit] w fun e w' => e = .returned (.tuple #[.agg #[.int .u16 (0 : Nat), .int .u8 (0 : Nat), .int .u16 (0 : Nat)], .bool false]) ∧ Below w.heap.size w w' := by
    intro hc
    rcases hc with hc | ⟨hc, hc2⟩
    · go_enter Tryd.func13, Tryd.ntmps13
      go_upto_region 1 with (fail)
      rw [HW.out]
      go_wp2
      obtain ⟨hb9, b9⟩ := ep_put HB1.out BW.out (by omega) (.int .u16 0) (.int .u8 0) (.int .u16 0)
      generalize ((w1.setCell ⟨w.heap.size + 1, 0, none⟩ (.int .u16 0)).setCell ⟨w.heap.size + 1, 1, none⟩ (.int .u8 0)).setCell ⟨w.heap.size + 1, 2, none⟩ (.int .u16 0) = W8 at hb9 b9 ⊢
      have c80 : W8.cell? ⟨w.heap.size + 1, 0, none⟩ = some (.int .u16 0) := blk_cell hb9 0
      have c81 : W8.cell? ⟨w.heap.size + 1, 1, none⟩ = some (.int .u8 0) := blk_cell hb9 1
      have c82 : W8.cell? ⟨w.heap.size + 1, 2, none⟩ = some (.int .u16 0) := blk_cell hb9 2
      exact bodyPost_ret (v := .tuple #[.agg #[.int .u16 0, .int .u8 0, .int .u16 0], .bool false]) (by simp [results, Tryd.results13, go_sem, c80, c81, c82]) rfl ⟨rfl, b9⟩
    · have hce : ((c : Int) == 65535) = true := by simp; omega
      clear hc2
      go_enter Tryd.func13, Tryd.ntmps13
      go_upto_region 1 with (fail)
      rw [HW.out]
      go_wp2
      obtain ⟨hb9, b9⟩ := ep_put HB1.out BW.out (by omega) (.int .u16 0) (.int .u8 0) (.int .u16 0)
      generalize ((w1.setCell ⟨w.heap.size + 1, 0, none⟩ (.int .u16 0)).setCell ⟨w.heap.size + 1, 1, none⟩ (.int .u8 0)).setCell ⟨w.heap.size + 1, 2, none⟩ (.int .u16 0) = W8 at hb9 b9 ⊢
      have c80 : W8.cell? ⟨w.heap.size + 1, 0, none⟩ = some (.int .u16 0) := blk_cell hb9 0
      have c81 : W8.cell? ⟨w.heap.size + 1, 1, none⟩ = some (.int .u8 0) := blk_cell hb9 1
      have c82 : W8.cell? ⟨w.heap.size + 1, 2, none⟩ = some (.int .u16 0) := blk_cell hb9 2
      exact bodyPost_ret (v := .tuple #[.agg #[.int .u16 0, .int .u8 0, .int .u16 0], .bool false]) (by simp [results, Tryd.results13, go_sem, c80, c81, c82]) rfl ⟨rfl, b9⟩
  by_cases hm : limit ≤ (c : Int) ∨ c = 65535
  · rw [if_pos hm]
    exact zero (by omega)
  · rw [if_neg hm]
    clear zero
    have hl : ¬ limit ≤ (c : Int) := by omega
    have hc : (c : Int) < 65535 := by omega
    have hce : ((c : Int) == 65535) = false := by simp; omega
    have wk : IntKind.u16.wrap ((c : Int) + 1) = (c : Int) + 1 := by rw [IntKind.wrap_u16]; omega
    clear hm h1
    go_enter Tryd.func13, Tryd.ntmps13
    go_upto_region 1 with (fail)
    rw [HW.out]
    go_wp2
    obtain ⟨hb9, b9⟩ := ep_put HB1.out BW.out (by omega) (.int .u16 ((c : Int) + 1)) (.int .u8 a) (.int .u16 i)
    generalize ((w1.setCell ⟨w.heap.size + 1, 0, none⟩ (.int .u16 ((c : Int) + 1))).setCell ⟨w.heap.size + 1, 1, none⟩ (.int .u8 a)).setCell ⟨w.heap.size + 1, 2, none⟩ (.int .u16 i) = W8 at hb9 b9 ⊢
    have c80 : W8.cell? ⟨w.heap.size + 1, 0, none⟩ = some (.int .u16 ((c : Int) + 1)) := blk_cell hb9 0
    have c81 : W8.cell? ⟨w.heap.size + 1, 1, none⟩ = some (.int .u8 a) := blk_cell hb9 1
    have c82 : W8.cell? ⟨w.heap.size + 1, 2, none⟩ = some (.int .u16 i) := blk_cell hb9 2
    exact bodyPost_ret (v := .tuple #[.agg #[.int .u16 ((c : Int) + 1), .int .u8 a, .int .u16 i], .bool true]) (by simp [results, Tryd.results13, go_sem, c80, c81, c82]) rfl ⟨rfl, b9⟩
end Go.Proofs.YtjmdkhjfjlodmaaDoor
