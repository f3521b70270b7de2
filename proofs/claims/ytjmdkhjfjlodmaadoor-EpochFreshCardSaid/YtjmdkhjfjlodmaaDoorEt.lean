/- Layer 3: Text, the reference's Text. -/
import Derived.Test.YtjmdkhjfjlodmaaDoorEf
namespace Go.Proofs.YtjmdkhjfjlodmaaDoor
open Go.RowKit
set_option linter.unusedVariables false
set_option linter.unusedSimpArgs false

set_option maxRecDepth 100000 in
set_option maxHeartbeats 4000000 in
theorem etext_any (x : Ep) (ok : x.ok) (w : World) (hE : Env w) :
    Calls Tryd.prog 12 #[.agg x.v] w fun e w' => e = .returned (.string (ofL x.text)) ∧ Below w.heap.size w w' := by
  have h1 := ok.c; have h2 := ok.a; have h3 := ok.i
  have z1 := dd_len5 h1
  have z2 := dd_len5 (show x.a < 65536 by omega)
  have z3 := dd_len5 h3
  have hcat : ofL (dd x.c) ++ ⟨#[46]⟩ ++ ofL (dd x.a) ++ ⟨#[46]⟩ ++ ofL (dd x.i) = ofL x.text := by
    apply ofL_eq
    simp only [data_append, ofL_data, Ep.text]
  have hd : (⟨#[46]⟩ : ByteArray).size = 1 := rfl
  have y1 : (ofL (dd x.c)).size ≤ 5 := by rw [ofL_size]; exact z1
  have y2 : (ofL (dd x.a)).size ≤ 5 := by rw [ofL_size]; exact z2
  have y3 : (ofL (dd x.i)).size ≤ 5 := by rw [ofL_size]; exact z3
  have q1 : (9223372036854775807 < (ofL (dd x.c)).size + (⟨#[46]⟩ : ByteArray).size) = False := eq_false (by omega)
  have q2 : (9223372036854775807 < (ofL (dd x.c)).size + (⟨#[46]⟩ : ByteArray).size + (ofL (dd x.a)).size) = False := eq_false (by omega)
  have q3 : (9223372036854775807 < (ofL (dd x.c)).size + (⟨#[46]⟩ : ByteArray).size + (ofL (dd x.a)).size + (⟨#[46]⟩ : ByteArray).size) = False := eq_false (by omega)
  have q4 : (9223372036854775807 < (ofL (dd x.c)).size + (⟨#[46]⟩ : ByteArray).size + (ofL (dd x.a)).size + (⟨#[46]⟩ : ByteArray).size + (ofL (dd x.i)).size) = False := eq_false (by omega)
  rw [hd] at q1 q2 q3 q4
  clear y1 y2 y3 z1 z2 z3 hd
  obtain ⟨TX, hTX⟩ : ∃ TX, ofL x.text = TX := ⟨_, rfl⟩
  rw [hTX] at hcat ⊢
  have h2' : x.a < 65536 := by omega
  clear ok hTX
  obtain ⟨a, b, c⟩ := x
  unfold Ep.v
  simp only at hcat q1 q2 q3 q4 h1 h2 h2' h3 ⊢
  have m1 : IntKind.i64.wrap (a : Int) = (a : Int) := by rw [IntKind.wrap_i64]; omega
  have m2 : IntKind.i64.wrap (b : Int) = (b : Int) := by rw [IntKind.wrap_i64]; omega
  have m3 : IntKind.i64.wrap (c : Int) = (c : Int) := by rw [IntKind.wrap_i64]; omega
  obtain ⟨w1, hw1⟩ : ∃ w1, w.alloc (.cells #[.int .u16 a, .int .u8 b, .int .u16 c] 24) = w1 := ⟨_, rfl⟩
  have hs0 : w1.heap[w.heap.size]? = some (.cells #[.int .u16 a, .int .u8 b, .int .u16 c] 24 (0, 0)) := by rw [← hw1]; exact heap_alloc_new w _
  have b1 : Below w.heap.size w w1 := by rw [← hw1]; exact (Below.refl _ _).alloc (Nat.le_refl _) _
  have c0 : w1.cell? ⟨w.heap.size, 0, none⟩ = some (.int .u16 a) := blk_cell hs0 0
  have c1 : w1.cell? ⟨w.heap.size, 1, none⟩ = some (.int .u8 b) := blk_cell hs0 1
  have c2 : w1.cell? ⟨w.heap.size, 2, none⟩ = some (.int .u16 c) := blk_cell hs0 2
  have hl0 : w.heap.size < w1.heap.size := (Array.getElem?_eq_some_iff.1 hs0).1
  have E1 := hide (hE.below b1)
  have HW := hide hw1; have B1 := hide b1; have HCAT := hide hcat
  have HA := hide h1; have HB := hide h2'; have HC := hide h3
  clear hw1 b1 hs0 hcat h1 h2 h2' h3
  go_enter Tryd.func12, Tryd.ntmps12
  go_upto_region 1 with (fail)
  rw [HW.out]
  go_region_held3 (fun w' => (∀ b o, b < w1.heap.size → w'.cell? ⟨b, o, none⟩ = w1.cell? ⟨b, o, none⟩) ∧ Below w1.heap.size w1 w')
    (first | exact BS.drew _ | assumption | exact BS.go (by assumption) (by assumption))
    (first
      | (go_at_call 26; (with_reducible refine (itoa_in E1.out a HA.out (by assumption)).mono ?_); rintro e w' ⟨rfl, hbw⟩)
      | (go_at_call 26; (with_reducible refine (itoa_in E1.out b HB.out (by assumption)).mono ?_); rintro e w' ⟨rfl, hbw⟩)
      | (go_at_call 26; (with_reducible refine (itoa_in E1.out c HC.out (by assumption)).mono ?_); rintro e w' ⟨rfl, hbw⟩))
  obtain ⟨_, hB⟩ := ‹(∀ b o, b < w1.heap.size → _) ∧ Below w1.heap.size w1 _›
  have HBB := hide (B1.out.trans (hB.mono B1.out.size))
  clear hB
  go_wp2
  go_ret
  exact ⟨by rw [HCAT.out]; rfl, HBB.out⟩

set_option maxRecDepth 100000 in
set_option maxHeartbeats 4000000 in
theorem rtext_any (x : Ep) (ok : x.ok) (w : World) :
    Calls Tryd.prog 20 #[.agg x.v] w fun e w' => e = .returned (.string (ofL x.text)) ∧ Below w.heap.size w w' := by
  have h1 := ok.c; have h2 := ok.a; have h3 := ok.i
  have z1 := dd_len5 h1
  have z2 := dd_len5 (show x.a < 65536 by omega)
  have z3 := dd_len5 h3
  have hcat : ofL (dd x.c) ++ ⟨#[46]⟩ ++ ofL (dd x.a) ++ ⟨#[46]⟩ ++ ofL (dd x.i) = ofL x.text := by
    apply ofL_eq
    simp only [data_append, ofL_data, Ep.text]
  have hd : (⟨#[46]⟩ : ByteArray).size = 1 := rfl
  have y1 : (ofL (dd x.c)).size ≤ 5 := by rw [ofL_size]; exact z1
  have y2 : (ofL (dd x.a)).size ≤ 5 := by rw [ofL_size]; exact z2
  have y3 : (ofL (dd x.i)).size ≤ 5 := by rw [ofL_size]; exact z3
  have q1 : (9223372036854775807 < (ofL (dd x.c)).size + (⟨#[46]⟩ : ByteArray).size) = False := eq_false (by omega)
  have q2 : (9223372036854775807 < (ofL (dd x.c)).size + (⟨#[46]⟩ : ByteArray).size + (ofL (dd x.a)).size) = False := eq_false (by omega)
  have q3 : (9223372036854775807 < (ofL (dd x.c)).size + (⟨#[46]⟩ : ByteArray).size + (ofL (dd x.a)).size + (⟨#[46]⟩ : ByteArray).size) = False := eq_false (by omega)
  have q4 : (9223372036854775807 < (ofL (dd x.c)).size + (⟨#[46]⟩ : ByteArray).size + (ofL (dd x.a)).size + (⟨#[46]⟩ : ByteArray).size + (ofL (dd x.i)).size) = False := eq_false (by omega)
  rw [hd] at q1 q2 q3 q4
  clear y1 y2 y3 z1 z2 z3 hd
  obtain ⟨TX, hTX⟩ : ∃ TX, ofL x.text = TX := ⟨_, rfl⟩
  rw [hTX] at hcat ⊢
  have h2' : x.a < 65536 := by omega
  clear ok hTX
  obtain ⟨a, b, c⟩ := x
  unfold Ep.v
  simp only at hcat q1 q2 q3 q4 h1 h2 h2' h3 ⊢
  have m1 : IntKind.i64.wrap (a : Int) = (a : Int) := by rw [IntKind.wrap_i64]; omega
  have m2 : IntKind.i64.wrap (b : Int) = (b : Int) := by rw [IntKind.wrap_i64]; omega
  have m3 : IntKind.i64.wrap (c : Int) = (c : Int) := by rw [IntKind.wrap_i64]; omega
  obtain ⟨w1, hw1⟩ : ∃ w1, w.alloc (.cells #[.int .u16 a, .int .u8 b, .int .u16 c] 24) = w1 := ⟨_, rfl⟩
  have hs0 : w1.heap[w.heap.size]? = some (.cells #[.int .u16 a, .int .u8 b, .int .u16 c] 24 (0, 0)) := by rw [← hw1]; exact heap_alloc_new w _
  have b1 : Below w.heap.size w w1 := by rw [← hw1]; exact (Below.refl _ _).alloc (Nat.le_refl _) _
  have c0 : w1.cell? ⟨w.heap.size, 0, none⟩ = some (.int .u16 a) := blk_cell hs0 0
  have c1 : w1.cell? ⟨w.heap.size, 1, none⟩ = some (.int .u8 b) := blk_cell hs0 1
  have c2 : w1.cell? ⟨w.heap.size, 2, none⟩ = some (.int .u16 c) := blk_cell hs0 2
  have hl0 : w.heap.size < w1.heap.size := (Array.getElem?_eq_some_iff.1 hs0).1
  have HW := hide hw1; have B1 := hide b1; have HCAT := hide hcat
  have HA := hide h1; have HB := hide h2'; have HC := hide h3
  clear hw1 b1 hs0 hcat h1 h2 h2' h3
  go_enter Tryd.func20, Tryd.ntmps20
  go_upto_region 1 with (fail)
  rw [HW.out]
  go_region_held3 (fun w' => (∀ b o, b < w1.heap.size → w'.cell? ⟨b, o, none⟩ = w1.cell? ⟨b, o, none⟩) ∧ Below w1.heap.size w1 w')
    (first | exact BS.drew _ | assumption | exact BS.go (by assumption) (by assumption))
    (first
      | (go_at_call 27; (with_reducible refine (digits_any a HA.out _).mono ?_); rintro e w' ⟨rfl, hbw⟩)
      | (go_at_call 27; (with_reducible refine (digits_any b HB.out _).mono ?_); rintro e w' ⟨rfl, hbw⟩)
      | (go_at_call 27; (with_reducible refine (digits_any c HC.out _).mono ?_); rintro e w' ⟨rfl, hbw⟩))
  obtain ⟨_, hB⟩ := ‹(∀ b o, b < w1.heap.size → _) ∧ Below w1.heap.size w1 _›
  have HBB := hide (B1.out.trans (hB.mono B1.out.size))
  clear hB
  go_wp2
  go_ret
  exact ⟨by rw [HCAT.out]; rfl, HBB.out⟩
end Go.Proofs.YtjmdkhjfjlodmaaDoor
