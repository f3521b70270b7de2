/- The walks of retain.Commit and retain.Boot. -/
import Derived.Test.YtocbaapnajdcfaaDoorPm
namespace Go.Proofs.YtocbaapnajdcfaaDoor
open Go.RowKit
set_option linter.unusedVariables false
set_option linter.unusedSimpArgs false

set_option maxRecDepth 100000 in
set_option maxHeartbeats 1000000 in
theorem Commit_any {w : World} {g h cap : Nat} {s : St} (k : StAt w g h cap s) (inc : Nat) (hi : inc < 65536) (data : List UInt8) (hd : data.length ≤ 140737488351232) (hw : s.wrote + 300 ≤ 9223372036854775807) :
    Calls Tryd.prog 10 #[.pointer (some ⟨g, 0, none⟩), .int .u16 inc, .string (ofL data)] w fun e w' => e = .returned (.int .i64 (CommitP s inc data).1) ∧ StAt w' g h cap (CommitP s inc data).2 ∧ Only g h w w' := by
  have hz := ofL_size data
  by_cases hl : 64 < data.length
  · have hC : CommitP s inc data = (2, s) := if_pos hl
    rw [hC]
    have K := hide k
    obtain ⟨X, hX⟩ : ∃ X, ofL data = X := ⟨_, rfl⟩
    rw [hX] at hz ⊢
    have h1 : (64 : Int) < (X.size : Int) := by omega
    clear k hX hz hl hd hC
    go_enter Tryd.func10, Tryd.ntmps10
    go_wp2
    go_ret
    exact ⟨rfl, K.out, Only.refl _ _ _⟩
  · have hC : CommitP s inc data = ((commitP s ⟨0, inc, data⟩).1.2, (commitP s ⟨0, inc, data⟩).2) := if_neg hl
    have HC := hide (commit_any k ⟨0, inc, data⟩ ⟨show 0 < 4294967296 by decide, hi, by show data.length ≤ 64; omega⟩ hw)
    obtain ⟨⟨R, e⟩, s2, hx⟩ : ∃ x y, commitP s ⟨0, inc, data⟩ = (x, y) := ⟨_, _, rfl⟩
    rw [hx] at hC HC
    rw [hC]
    simp only at HC ⊢
    unfold Rec.v at HC
    obtain ⟨X, hX⟩ : ∃ X, ofL data = X := ⟨_, rfl⟩
    simp only [hX] at HC
    rw [hX] at hz ⊢
    have h1 : ¬ (64 : Int) < (X.size : Int) := by omega
    clear k hX hz hl hd hC hx
    go_enter Tryd.func10, Tryd.ntmps10
    go_wp2_with fail
    refine HC.out.mono ?_
    rintro e1 w1 ⟨rfl, k1, o1⟩
    have K1 := hide k1; have O1 := hide o1
    clear k1 o1 HC
    go_wp2_with fail
    go_ret
    exact ⟨rfl, K1.out.below ((Below.refl _ _).alloc (Nat.le_refl _) _), only_below O1.out ((Below.refl w1.heap.size w1).alloc (Nat.le_refl _) _) O1.out.size⟩

set_option maxRecDepth 100000 in
set_option maxHeartbeats 2000000 in
theorem Boot_any {w : World} {g h cap : Nat} {s : St} (k : StAt w g h cap s) (hw : s.wrote + 300 ≤ 9223372036854775807) :
    Calls Tryd.prog 11 #[.pointer (some ⟨g, 0, none⟩)] w fun e w' => e = .returned (.tuple #[.agg (BootP s).1.1.v, .int .i64 (BootP s).1.2]) ∧ StAt w' g h cap (BootP s).2 ∧ Only g h w w' := by
  obtain ⟨C, hC⟩ : ∃ C, BootP s = C := ⟨_, rfl⟩
  rw [hC]
  unfold BootP at hC
  obtain ⟨i, R, f, hA⟩ : ∃ i R f, newestP s.b = (i, R, f) := ⟨_, _, _, rfl⟩
  have hRok : R.ok := by have := newestP_ok s.b; rw [hA] at this; exact this
  rw [hA] at hC
  simp only at hC
  obtain ⟨w0, hw0⟩ : ∃ w0, w.alloc (.cells #[.int .u32 0, .int .u16 0, .string ⟨#[]⟩] 25) = w0 := ⟨_, rfl⟩
  have b0 : Below w.heap.size w w0 := by rw [← hw0]; exact (Below.refl _ _).alloc (Nat.le_refl _) _
  have hy0 : w0.heap[w.heap.size]? = some (.cells #[.int .u32 0, .int .u16 0, .string ⟨#[]⟩] 25 (0, 0)) := by rw [← hw0]; exact heap_alloc_new w _
  have k0 := k.below b0
  have HN := hide (newest_any k0)
  rw [hA] at HN
  simp only at HN
  have HK := hide k; have HC := hide hC; have HROK := hide hRok; have HW0 := hide hw0; have B0 := hide b0; have HY0 := hide hy0
  have hg : g < w.heap.size := (Array.getElem?_eq_some_iff.1 k.blk).1
  have hh := k.lt
  clear k k0 hC hRok hw0 b0 hy0 hA
  unfold Rec.v at HN
  unfold Rec.v
  go_enter Tryd.func11, Tryd.ntmps11
  go_wp2_with fail
  rw [HW0.out]
  refine HN.out.mono ?_
  rintro e w1 ⟨rfl, b1⟩
  have hy1 := (b1.block w.heap.size (Array.getElem?_eq_some_iff.1 HY0.out).1).trans HY0.out
  have bw1 : Below w.heap.size w w1 := B0.out.trans (b1.mono B0.out.size)
  obtain ⟨q, hq⟩ : ∃ q, w1.heap.size = q := ⟨_, rfl⟩
  obtain ⟨w2, hw2⟩ : ∃ w2, w1.alloc (.cells #[.int .u32 R.seq, .int .u16 R.inc, .string (ofL R.data)] 25) = w2 := ⟨_, rfl⟩
  have hy2 : w2.heap[w.heap.size]? = some (.cells #[.int .u32 0, .int .u16 0, .string ⟨#[]⟩] 25 (0, 0)) := by rw [← hw2]; exact old_alloc hy1 _
  have hz2 : RecB w2 q R := by rw [← hw2, ← hq]; exact heap_alloc_new w1 _
  have bw2 : Below w.heap.size w w2 := by rw [← hw2]; exact bw1.alloc bw1.size _
  have hq1 : w.heap.size < q := by rw [← hq]; exact (Array.getElem?_eq_some_iff.1 hy1).1
  have HW2 := hide hw2; have HQ := hide hq; have K2 := hide (HK.out.below bw2)
  clear hw2 hq b1 hy1 bw1 HY0 B0 HN
  go_upto_region 2 with (fail)
  rw [HQ.out, HW2.out]
  have c0 : w2.cell? ⟨q, 0, none⟩ = some (.int .u32 R.seq) := blk_cell hz2 0
  have c1 : w2.cell? ⟨q, 1, none⟩ = some (.int .u16 R.inc) := blk_cell hz2 1
  have c2 : w2.cell? ⟨q, 2, none⟩ = some (.string (ofL R.data)) := blk_cell hz2 2
  have m1 : w2.frozen? ⟨q, 1, none⟩ = false := blk_frozen hz2 1
  have e0 : w2.cell? ⟨w.heap.size, 0, none⟩ = some (.int .u32 0) := blk_cell hy2 0
  have e1 : w2.cell? ⟨w.heap.size, 1, none⟩ = some (.int .u16 0) := blk_cell hy2 1
  have e2 : w2.cell? ⟨w.heap.size, 2, none⟩ = some (.string ⟨#[]⟩) := blk_cell hy2 2
  have g0 : w2.frozen? ⟨w.heap.size, 0, none⟩ = false := blk_frozen hy2 0
  have g1 : w2.frozen? ⟨w.heap.size, 1, none⟩ = false := blk_frozen hy2 1
  have g2 : w2.frozen? ⟨w.heap.size, 2, none⟩ = false := blk_frozen hy2 2
  have HY2 := hide hy2; have HZ2 := hide hz2; have BW2 := hide bw2
  clear hy2 hz2 bw2
  by_cases hmax : R.inc = 65535
  · have hm1 : ((R.inc : Int) == 65535) = true := by simp; omega
    have hC := HC.out
    rw [if_pos hmax] at hC
    subst hC
    clear hmax
    go_wp2_with fail
    obtain ⟨hb9, b9⟩ := rec_put HY2.out (Below.refl w.heap.size w2) (Nat.le_refl _) (.int .u32 0) (.int .u16 0) (.string ⟨#[]⟩)
    generalize ((w2.setCell ⟨w.heap.size, 0, none⟩ (.int .u32 0)).setCell ⟨w.heap.size, 1, none⟩ (.int .u16 0)).setCell ⟨w.heap.size, 2, none⟩ (.string ⟨#[]⟩) = W8 at hb9 b9 ⊢
    have c80 : W8.cell? ⟨w.heap.size, 0, none⟩ = some (.int .u32 0) := blk_cell hb9 0
    have c81 : W8.cell? ⟨w.heap.size, 1, none⟩ = some (.int .u16 0) := blk_cell hb9 1
    have c82 : W8.cell? ⟨w.heap.size, 2, none⟩ = some (.string ⟨#[]⟩) := blk_cell hb9 2
    exact bodyPost_ret (v := .tuple #[.agg #[.int .u32 0, .int .u16 0, .string ⟨#[]⟩], .int .i64 13]) (by simp [results, Tryd.results11, go_sem, c80, c81, c82]) rfl ⟨rfl, stAt_low K2.out b9 hg hh, only_below (only_low BW2.out) b9 (Nat.le_refl _)⟩
  · have hm1 : ((R.inc : Int) == 65535) = false := by simp; omega
    have hC := HC.out
    rw [if_neg hmax] at hC
    obtain ⟨n, hn⟩ : ∃ n, R.inc + 1 = n := ⟨_, rfl⟩
    have wi : IntKind.u16.wrap ((R.inc : Int) + 1) = (n : Int) := by have := HROK.out.inc; rw [IntKind.wrap_u16]; omega
    rw [hn] at hC
    have k3 : StAt (w2.setCell ⟨q, 1, none⟩ (.int .u16 n)) g h cap s := stAt_low K2.out ((Below.refl w.heap.size w2).setCell (p := ⟨q, 1, none⟩) (by show w.heap.size ≤ q; omega) _) hg hh
    have HCC := hide (commit_any k3 { R with inc := n } ⟨HROK.out.seq, by have := HROK.out.inc; show n < _; omega, HROK.out.data⟩ hw)
    rw [hC] at HCC
    unfold Rec.v at HCC
    have hy3 := (set_other (w := w2) (g := q) 1 (.int .u16 (n : Int)) (show w.heap.size ≠ q by omega)).trans HY2.out
    have bw3 : Below w.heap.size w (w2.setCell ⟨q, 1, none⟩ (.int .u16 n)) := BW2.out.setCell (p := ⟨q, 1, none⟩) (by show w.heap.size ≤ q; omega) _
    have HY3 := hide hy3; have BW3 := hide bw3
    clear hC hmax hn k3 hy3 bw3 HC
    go_wp2_with fail
    refine HCC.out.mono ?_
    rintro e w4 ⟨rfl, k4, o4⟩
    have hy4 := (o4.block w.heap.size (Array.getElem?_eq_some_iff.1 HY3.out).1 (by omega) (by omega)).trans HY3.out
    have e0 : w4.cell? ⟨w.heap.size, 0, none⟩ = some (.int .u32 0) := blk_cell hy4 0
    have e1 : w4.cell? ⟨w.heap.size, 1, none⟩ = some (.int .u16 0) := blk_cell hy4 1
    have e2 : w4.cell? ⟨w.heap.size, 2, none⟩ = some (.string ⟨#[]⟩) := blk_cell hy4 2
    have g0 : w4.frozen? ⟨w.heap.size, 0, none⟩ = false := blk_frozen hy4 0
    have g1 : w4.frozen? ⟨w.heap.size, 1, none⟩ = false := blk_frozen hy4 1
    have g2 : w4.frozen? ⟨w.heap.size, 2, none⟩ = false := blk_frozen hy4 2
    have HY4 := hide hy4; have K4 := hide k4; have O4 := hide o4
    clear hy4 k4 o4 c0 c1 c2 m1 HCC
    go_wp2_with fail
    obtain ⟨hb9, b9⟩ := recB_put (R := Rec.zero) HY4.out (Below.refl w.heap.size w4) (Nat.le_refl _) C.1.1
    generalize ((w4.setCell ⟨w.heap.size, 0, none⟩ (.int .u32 C.1.1.seq)).setCell ⟨w.heap.size, 1, none⟩ (.int .u16 C.1.1.inc)).setCell ⟨w.heap.size, 2, none⟩ (.string (ofL C.1.1.data)) = W8 at hb9 b9 ⊢
    have c80 : W8.cell? ⟨w.heap.size, 0, none⟩ = some (.int .u32 C.1.1.seq) := blk_cell hb9 0
    have c81 : W8.cell? ⟨w.heap.size, 1, none⟩ = some (.int .u16 C.1.1.inc) := blk_cell hb9 1
    have c82 : W8.cell? ⟨w.heap.size, 2, none⟩ = some (.string (ofL C.1.1.data)) := blk_cell hb9 2
    exact bodyPost_ret (v := .tuple #[.agg #[.int .u32 C.1.1.seq, .int .u16 C.1.1.inc, .string (ofL C.1.1.data)], .int .i64 C.1.2]) (by simp [results, Tryd.results11, go_sem, c80, c81, c82]) rfl ⟨rfl, stAt_low K4.out b9 hg hh, only_below ((only_low BW3.out).trans O4.out) b9 (Nat.le_refl _)⟩
end Go.Proofs.YtocbaapnajdcfaaDoor
