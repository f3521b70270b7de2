/- The reference of layer 7: Next. -/
import Derived.Test.YtocbaapnajdcfaaDoorCn
namespace Go.Proofs.YtocbaapnajdcfaaDoor
open Go.RowKit
set_option linter.unusedVariables false
set_option linter.unusedSimpArgs false

/-- What is committed next, and the error. -/
def nextR (b : List UInt8) (boot : Bool) (inc : Nat) (data : List UInt8) : Rec × Int :=
  if boot = false ∧ 64 < data.length then (Rec.zero, 2)
  else if b.length < 148 then (Rec.zero, 1)
  else if boot = true ∧ (newestR b).2.inc = 65535 then (Rec.zero, 13)
  else if (newestR b).2.seq = 4294967295 then (Rec.zero, 13)
  else (⟨(newestR b).2.seq + 1, if boot = true then (newestR b).2.inc + 1 else inc, if boot = true then (newestR b).2.data else data⟩, 0)

theorem nextR_ok {b : List UInt8} {boot : Bool} {inc : Nat} {data : List UInt8} (hi : inc < 65536) : (nextR b boot inc data).1.ok := by
  have h := newestR_ok b
  have h1 := h.seq
  have h2 := h.inc
  have h3 := h.data
  unfold nextR
  split
  · exact zero_ok
  · rename_i c1
    split
    · exact zero_ok
    · split
      · exact zero_ok
      · rename_i c3
        split
        · exact zero_ok
        · rename_i c4
          cases boot with
          | true =>
            simp only [true_and] at c3
            exact ⟨by show _ + 1 < _; omega, by show _ + 1 < _; omega, h3⟩
          | false =>
            simp only [true_and] at c1
            exact ⟨by show _ + 1 < _; omega, hi, by show data.length ≤ 64; omega⟩

set_option maxHeartbeats 1000000 in
theorem rnext_long (s : ByteArray) (boot : Bool) (inc : Nat) (data : ByteArray) (hs2 : s.size ≤ 1000) (hi : inc < 65536) (hd2 : data.size ≤ 1000) (h : 64 < data.size) (w : World) :
    Calls Tryd.prog 30 #[.string s, .bool false, .int .u16 inc, .string data] w fun e w' => e = .returned (.tuple #[.agg #[.int .u32 0, .int .u16 0, .string ⟨#[]⟩], .int .i64 2]) ∧ Below w.heap.size w w' := by
  go_enter Tryd.func30, Tryd.ntmps30
  go_wp2
  have hb1 := heap_alloc_new w (.cells #[.int .u32 0, .int .u16 0, .string ⟨#[]⟩] 25)
  have b1 : Below w.heap.size w (w.alloc (.cells #[.int .u32 0, .int .u16 0, .string ⟨#[]⟩] 25)) := (Below.refl _ _).alloc (Nat.le_refl _) _
  exact bodyPost_ret (v := .tuple #[.agg #[.int .u32 0, .int .u16 0, .string ⟨#[]⟩], .int .i64 2]) (by simp [results, Tryd.results30, go_sem]) rfl ⟨rfl, b1⟩

set_option maxHeartbeats 1000000 in
theorem rnext_small1 (s : ByteArray) (boot : Bool) (inc : Nat) (data : ByteArray) (hs2 : s.size ≤ 1000) (hi : inc < 65536) (hd2 : data.size ≤ 1000) (h : s.size < 148) (w : World) :
    Calls Tryd.prog 30 #[.string s, .bool true, .int .u16 inc, .string data] w fun e w' => e = .returned (.tuple #[.agg #[.int .u32 0, .int .u16 0, .string ⟨#[]⟩], .int .i64 1]) ∧ Below w.heap.size w w' := by
  have hss : ((s.size : Int) < 148) = True := eq_true (by omega)
  clear h
  go_enter Tryd.func30, Tryd.ntmps30
  go_wp2
  have hb1 := heap_alloc_new w (.cells #[.int .u32 0, .int .u16 0, .string ⟨#[]⟩] 25)
  have b1 : Below w.heap.size w (w.alloc (.cells #[.int .u32 0, .int .u16 0, .string ⟨#[]⟩] 25)) := (Below.refl _ _).alloc (Nat.le_refl _) _
  exact bodyPost_ret (v := .tuple #[.agg #[.int .u32 0, .int .u16 0, .string ⟨#[]⟩], .int .i64 1]) (by simp [results, Tryd.results30, go_sem]) rfl ⟨rfl, b1⟩

set_option maxHeartbeats 1000000 in
theorem rnext_small0 (s : ByteArray) (boot : Bool) (inc : Nat) (data : ByteArray) (hs2 : s.size ≤ 1000) (hi : inc < 65536) (hd2 : data.size ≤ 1000) (h : s.size < 148) (hd : data.size ≤ 64) (w : World) :
    Calls Tryd.prog 30 #[.string s, .bool false, .int .u16 inc, .string data] w fun e w' => e = .returned (.tuple #[.agg #[.int .u32 0, .int .u16 0, .string ⟨#[]⟩], .int .i64 1]) ∧ Below w.heap.size w w' := by
  have hss : ((s.size : Int) < 148) = True := eq_true (by omega)
  have hd3 : ((data.size : Int) ≤ 64) := by omega
  clear h hd
  go_enter Tryd.func30, Tryd.ntmps30
  go_wp2
  have hb1 := heap_alloc_new w (.cells #[.int .u32 0, .int .u16 0, .string ⟨#[]⟩] 25)
  have b1 : Below w.heap.size w (w.alloc (.cells #[.int .u32 0, .int .u16 0, .string ⟨#[]⟩] 25)) := (Below.refl _ _).alloc (Nat.le_refl _) _
  exact bodyPost_ret (v := .tuple #[.agg #[.int .u32 0, .int .u16 0, .string ⟨#[]⟩], .int .i64 1]) (by simp [results, Tryd.results30, go_sem]) rfl ⟨rfl, b1⟩

set_option maxHeartbeats 1000000 in
theorem rnext_inc (s : ByteArray) (boot : Bool) (inc : Nat) (data : ByteArray) (hs2 : s.size ≤ 1000) (hi : inc < 65536) (hs : 148 ≤ s.size) {R : Rec} (hR : (newestR s.data.toList).2 = R) (hd2 : data.size ≤ 1000) (h : R.inc = 65535) (w : World) :
    Calls Tryd.prog 30 #[.string s, .bool true, .int .u16 inc, .string data] w fun e w' => e = .returned (.tuple #[.agg #[.int .u32 0, .int .u16 0, .string ⟨#[]⟩], .int .i64 13]) ∧ Below w.heap.size w w' := by
  have ok : R.ok := hR ▸ newestR_ok _
  have hc := fun W => rnewest_any s hs hs2 W
  rw [hR] at hc
  obtain ⟨k, hk⟩ : ∃ k, (newestR s.data.toList).1 = k := ⟨_, rfl⟩
  rw [hk] at hc
  unfold Rec.v at hc
  have HC := hide hc
  have hss : ((s.size : Int) < 148) = False := eq_false (by omega)
  have h1 : ((R.inc : Int) == 65535) = true := by simp; omega
  clear h
  clear hc hR hk ok hs
  go_enter Tryd.func30, Tryd.ntmps30
  go_wp2_with fail
  refine (HC.out _).mono ?_
  rintro e w1 ⟨rfl, b1⟩
  have hb1 : w1.heap[w.heap.size]? = some (.cells #[.int .u32 0, .int .u16 0, .string ⟨#[]⟩] 25 (0, 0)) := (b1.block _ (by simp)).trans (heap_alloc_new w _)
  have bw1 := box_below b1
  obtain ⟨q, hq⟩ : ∃ q, w1.heap.size = q := ⟨_, rfl⟩
  obtain ⟨w2, hw2⟩ : ∃ w2, w1.alloc (.cells #[.int .u32 R.seq, .int .u16 R.inc, .string (ofL R.data)] 25) = w2 := ⟨_, rfl⟩
  have hb2 : w2.heap[w.heap.size]? = some (.cells #[.int .u32 0, .int .u16 0, .string ⟨#[]⟩] 25 (0, 0)) := by rw [← hw2]; exact old_alloc hb1 _
  have hr2 : w2.heap[q]? = some (.cells #[.int .u32 R.seq, .int .u16 R.inc, .string (ofL R.data)] 25 (0, 0)) := by rw [← hw2, ← hq]; exact heap_alloc_new w1 _
  have bw2 : Below w.heap.size w w2 := by rw [← hw2]; exact bw1.alloc bw1.size _
  have hq1 : w.heap.size < q := by rw [← hq]; exact (Array.getElem?_eq_some_iff.1 hb1).1
  have hne1 : q ≠ w.heap.size := by omega
  have hne2 : w.heap.size ≠ q := by omega
  have HW2 := hide hw2; have HQ := hide hq
  clear hw2 hq b1 hb1 bw1
  go_upto_region 6 with (fail)
  rw [HQ.out, HW2.out]
  have c0 : w2.cell? ⟨q, 0, none⟩ = some (.int .u32 R.seq) := blk_cell hr2 0
  have c1 : w2.cell? ⟨q, 1, none⟩ = some (.int .u16 R.inc) := blk_cell hr2 1
  have c2 : w2.cell? ⟨q, 2, none⟩ = some (.string (ofL R.data)) := blk_cell hr2 2
  have e0 : w2.cell? ⟨w.heap.size, 0, none⟩ = some (.int .u32 0) := blk_cell hb2 0
  have e1 : w2.cell? ⟨w.heap.size, 1, none⟩ = some (.int .u16 0) := blk_cell hb2 1
  have e2 : w2.cell? ⟨w.heap.size, 2, none⟩ = some (.string ⟨#[]⟩) := blk_cell hb2 2
  have g0 : w2.frozen? ⟨w.heap.size, 0, none⟩ = false := blk_frozen hb2 0
  have g1 : w2.frozen? ⟨w.heap.size, 1, none⟩ = false := blk_frozen hb2 1
  have g2 : w2.frozen? ⟨w.heap.size, 2, none⟩ = false := blk_frozen hb2 2
  have HB2 := hide hb2; have BW2 := hide bw2
  clear hb2 bw2 hr2
  go_wp2
  obtain ⟨hb8, b8⟩ := rec_put HB2.out BW2.out (Nat.le_refl _) (.int .u32 0) (.int .u16 0) (.string ⟨#[]⟩)
  generalize ((w2.setCell ⟨w.heap.size, 0, none⟩ (.int .u32 0)).setCell ⟨w.heap.size, 1, none⟩ (.int .u16 0)).setCell ⟨w.heap.size, 2, none⟩ (.string ⟨#[]⟩) = W8 at hb8 b8 ⊢
  have c80 : W8.cell? ⟨w.heap.size, 0, none⟩ = some (.int .u32 0) := blk_cell hb8 0
  have c81 : W8.cell? ⟨w.heap.size, 1, none⟩ = some (.int .u16 0) := blk_cell hb8 1
  have c82 : W8.cell? ⟨w.heap.size, 2, none⟩ = some (.string ⟨#[]⟩) := blk_cell hb8 2
  exact bodyPost_ret (v := .tuple #[.agg #[.int .u32 0, .int .u16 0, .string ⟨#[]⟩], .int .i64 13]) (by simp [results, Tryd.results30, go_sem, c80, c81, c82]) rfl ⟨rfl, b8⟩

set_option maxHeartbeats 1000000 in
theorem rnext_seq1 (s : ByteArray) (boot : Bool) (inc : Nat) (data : ByteArray) (hs2 : s.size ≤ 1000) (hi : inc < 65536) (hd2 : data.size ≤ 1000) (hs : 148 ≤ s.size) {R : Rec} (hR : (newestR s.data.toList).2 = R) (h : R.inc ≠ 65535) (h2 : R.seq = 4294967295) (w : World) :
    Calls Tryd.prog 30 #[.string s, .bool true, .int .u16 inc, .string data] w fun e w' => e = .returned (.tuple #[.agg #[.int .u32 0, .int .u16 0, .string ⟨#[]⟩], .int .i64 13]) ∧ Below w.heap.size w w' := by
  have ok : R.ok := hR ▸ newestR_ok _
  have hc := fun W => rnewest_any s hs hs2 W
  rw [hR] at hc
  obtain ⟨k, hk⟩ : ∃ k, (newestR s.data.toList).1 = k := ⟨_, rfl⟩
  rw [hk] at hc
  unfold Rec.v at hc
  have HC := hide hc
  have hss : ((s.size : Int) < 148) = False := eq_false (by omega)
  have h1 : ((R.inc : Int) == 65535) = false := by simp; omega
  have h3 : ((R.seq : Int) == 4294967295) = true := by simp; omega
  clear h h2
  clear hc hR hk ok hs
  go_enter Tryd.func30, Tryd.ntmps30
  go_wp2_with fail
  refine (HC.out _).mono ?_
  rintro e w1 ⟨rfl, b1⟩
  have hb1 : w1.heap[w.heap.size]? = some (.cells #[.int .u32 0, .int .u16 0, .string ⟨#[]⟩] 25 (0, 0)) := (b1.block _ (by simp)).trans (heap_alloc_new w _)
  have bw1 := box_below b1
  obtain ⟨q, hq⟩ : ∃ q, w1.heap.size = q := ⟨_, rfl⟩
  obtain ⟨w2, hw2⟩ : ∃ w2, w1.alloc (.cells #[.int .u32 R.seq, .int .u16 R.inc, .string (ofL R.data)] 25) = w2 := ⟨_, rfl⟩
  have hb2 : w2.heap[w.heap.size]? = some (.cells #[.int .u32 0, .int .u16 0, .string ⟨#[]⟩] 25 (0, 0)) := by rw [← hw2]; exact old_alloc hb1 _
  have hr2 : w2.heap[q]? = some (.cells #[.int .u32 R.seq, .int .u16 R.inc, .string (ofL R.data)] 25 (0, 0)) := by rw [← hw2, ← hq]; exact heap_alloc_new w1 _
  have bw2 : Below w.heap.size w w2 := by rw [← hw2]; exact bw1.alloc bw1.size _
  have hq1 : w.heap.size < q := by rw [← hq]; exact (Array.getElem?_eq_some_iff.1 hb1).1
  have hne1 : q ≠ w.heap.size := by omega
  have hne2 : w.heap.size ≠ q := by omega
  have HW2 := hide hw2; have HQ := hide hq
  clear hw2 hq b1 hb1 bw1
  go_upto_region 6 with (fail)
  rw [HQ.out, HW2.out]
  have c0 : w2.cell? ⟨q, 0, none⟩ = some (.int .u32 R.seq) := blk_cell hr2 0
  have c1 : w2.cell? ⟨q, 1, none⟩ = some (.int .u16 R.inc) := blk_cell hr2 1
  have c2 : w2.cell? ⟨q, 2, none⟩ = some (.string (ofL R.data)) := blk_cell hr2 2
  have e0 : w2.cell? ⟨w.heap.size, 0, none⟩ = some (.int .u32 0) := blk_cell hb2 0
  have e1 : w2.cell? ⟨w.heap.size, 1, none⟩ = some (.int .u16 0) := blk_cell hb2 1
  have e2 : w2.cell? ⟨w.heap.size, 2, none⟩ = some (.string ⟨#[]⟩) := blk_cell hb2 2
  have g0 : w2.frozen? ⟨w.heap.size, 0, none⟩ = false := blk_frozen hb2 0
  have g1 : w2.frozen? ⟨w.heap.size, 1, none⟩ = false := blk_frozen hb2 1
  have g2 : w2.frozen? ⟨w.heap.size, 2, none⟩ = false := blk_frozen hb2 2
  have HB2 := hide hb2; have BW2 := hide bw2
  clear hb2 bw2 hr2
  go_wp2
  obtain ⟨hb8, b8⟩ := rec_put HB2.out BW2.out (Nat.le_refl _) (.int .u32 0) (.int .u16 0) (.string ⟨#[]⟩)
  generalize ((w2.setCell ⟨w.heap.size, 0, none⟩ (.int .u32 0)).setCell ⟨w.heap.size, 1, none⟩ (.int .u16 0)).setCell ⟨w.heap.size, 2, none⟩ (.string ⟨#[]⟩) = W8 at hb8 b8 ⊢
  have c80 : W8.cell? ⟨w.heap.size, 0, none⟩ = some (.int .u32 0) := blk_cell hb8 0
  have c81 : W8.cell? ⟨w.heap.size, 1, none⟩ = some (.int .u16 0) := blk_cell hb8 1
  have c82 : W8.cell? ⟨w.heap.size, 2, none⟩ = some (.string ⟨#[]⟩) := blk_cell hb8 2
  exact bodyPost_ret (v := .tuple #[.agg #[.int .u32 0, .int .u16 0, .string ⟨#[]⟩], .int .i64 13]) (by simp [results, Tryd.results30, go_sem, c80, c81, c82]) rfl ⟨rfl, b8⟩

set_option maxHeartbeats 1000000 in
theorem rnext_seq0 (s : ByteArray) (boot : Bool) (inc : Nat) (data : ByteArray) (hs2 : s.size ≤ 1000) (hi : inc < 65536) (hd2 : data.size ≤ 1000) (hs : 148 ≤ s.size) {R : Rec} (hR : (newestR s.data.toList).2 = R) (hd : data.size ≤ 64) (h2 : R.seq = 4294967295) (w : World) :
    Calls Tryd.prog 30 #[.string s, .bool false, .int .u16 inc, .string data] w fun e w' => e = .returned (.tuple #[.agg #[.int .u32 0, .int .u16 0, .string ⟨#[]⟩], .int .i64 13]) ∧ Below w.heap.size w w' := by
  have ok : R.ok := hR ▸ newestR_ok _
  have hc := fun W => rnewest_any s hs hs2 W
  rw [hR] at hc
  obtain ⟨k, hk⟩ : ∃ k, (newestR s.data.toList).1 = k := ⟨_, rfl⟩
  rw [hk] at hc
  unfold Rec.v at hc
  have HC := hide hc
  have hss : ((s.size : Int) < 148) = False := eq_false (by omega)
  have h3 : ((R.seq : Int) == 4294967295) = true := by simp; omega
  have hd3 : ((data.size : Int) ≤ 64) := by omega
  clear h2
  clear hc hR hk ok hs
  go_enter Tryd.func30, Tryd.ntmps30
  go_wp2_with fail
  refine (HC.out _).mono ?_
  rintro e w1 ⟨rfl, b1⟩
  have hb1 : w1.heap[w.heap.size]? = some (.cells #[.int .u32 0, .int .u16 0, .string ⟨#[]⟩] 25 (0, 0)) := (b1.block _ (by simp)).trans (heap_alloc_new w _)
  have bw1 := box_below b1
  obtain ⟨q, hq⟩ : ∃ q, w1.heap.size = q := ⟨_, rfl⟩
  obtain ⟨w2, hw2⟩ : ∃ w2, w1.alloc (.cells #[.int .u32 R.seq, .int .u16 R.inc, .string (ofL R.data)] 25) = w2 := ⟨_, rfl⟩
  have hb2 : w2.heap[w.heap.size]? = some (.cells #[.int .u32 0, .int .u16 0, .string ⟨#[]⟩] 25 (0, 0)) := by rw [← hw2]; exact old_alloc hb1 _
  have hr2 : w2.heap[q]? = some (.cells #[.int .u32 R.seq, .int .u16 R.inc, .string (ofL R.data)] 25 (0, 0)) := by rw [← hw2, ← hq]; exact heap_alloc_new w1 _
  have bw2 : Below w.heap.size w w2 := by rw [← hw2]; exact bw1.alloc bw1.size _
  have hq1 : w.heap.size < q := by rw [← hq]; exact (Array.getElem?_eq_some_iff.1 hb1).1
  have hne1 : q ≠ w.heap.size := by omega
  have hne2 : w.heap.size ≠ q := by omega
  have HW2 := hide hw2; have HQ := hide hq
  clear hw2 hq b1 hb1 bw1
  go_upto_region 6 with (fail)
  rw [HQ.out, HW2.out]
  have c0 : w2.cell? ⟨q, 0, none⟩ = some (.int .u32 R.seq) := blk_cell hr2 0
  have c1 : w2.cell? ⟨q, 1, none⟩ = some (.int .u16 R.inc) := blk_cell hr2 1
  have c2 : w2.cell? ⟨q, 2, none⟩ = some (.string (ofL R.data)) := blk_cell hr2 2
  have e0 : w2.cell? ⟨w.heap.size, 0, none⟩ = some (.int .u32 0) := blk_cell hb2 0
  have e1 : w2.cell? ⟨w.heap.size, 1, none⟩ = some (.int .u16 0) := blk_cell hb2 1
  have e2 : w2.cell? ⟨w.heap.size, 2, none⟩ = some (.string ⟨#[]⟩) := blk_cell hb2 2
  have g0 : w2.frozen? ⟨w.heap.size, 0, none⟩ = false := blk_frozen hb2 0
  have g1 : w2.frozen? ⟨w.heap.size, 1, none⟩ = false := blk_frozen hb2 1
  have g2 : w2.frozen? ⟨w.heap.size, 2, none⟩ = false := blk_frozen hb2 2
  have HB2 := hide hb2; have BW2 := hide bw2
  clear hb2 bw2 hr2
  go_wp2
  obtain ⟨hb8, b8⟩ := rec_put HB2.out BW2.out (Nat.le_refl _) (.int .u32 0) (.int .u16 0) (.string ⟨#[]⟩)
  generalize ((w2.setCell ⟨w.heap.size, 0, none⟩ (.int .u32 0)).setCell ⟨w.heap.size, 1, none⟩ (.int .u16 0)).setCell ⟨w.heap.size, 2, none⟩ (.string ⟨#[]⟩) = W8 at hb8 b8 ⊢
  have c80 : W8.cell? ⟨w.heap.size, 0, none⟩ = some (.int .u32 0) := blk_cell hb8 0
  have c81 : W8.cell? ⟨w.heap.size, 1, none⟩ = some (.int .u16 0) := blk_cell hb8 1
  have c82 : W8.cell? ⟨w.heap.size, 2, none⟩ = some (.string ⟨#[]⟩) := blk_cell hb8 2
  exact bodyPost_ret (v := .tuple #[.agg #[.int .u32 0, .int .u16 0, .string ⟨#[]⟩], .int .i64 13]) (by simp [results, Tryd.results30, go_sem, c80, c81, c82]) rfl ⟨rfl, b8⟩

set_option maxHeartbeats 1000000 in
theorem rnext_ok1 (s : ByteArray) (boot : Bool) (inc : Nat) (data : ByteArray) (hs2 : s.size ≤ 1000) (hi : inc < 65536) (hd2 : data.size ≤ 1000) (hs : 148 ≤ s.size) {R : Rec} (hR : (newestR s.data.toList).2 = R) (h : R.inc ≠ 65535) (h2 : R.seq ≠ 4294967295) (w : World) :
    Calls Tryd.prog 30 #[.string s, .bool true, .int .u16 inc, .string data] w fun e w' => e = .returned (.tuple #[.agg #[.int .u32 ((R.seq : Int) + 1), .int .u16 ((R.inc : Int) + 1), .string (ofL R.data)], .int .i64 0]) ∧ Below w.heap.size w w' := by
  have ok : R.ok := hR ▸ newestR_ok _
  have hc := fun W => rnewest_any s hs hs2 W
  rw [hR] at hc
  obtain ⟨k, hk⟩ : ∃ k, (newestR s.data.toList).1 = k := ⟨_, rfl⟩
  rw [hk] at hc
  unfold Rec.v at hc
  have HC := hide hc
  have hss : ((s.size : Int) < 148) = False := eq_false (by omega)
  have h1 : ((R.inc : Int) == 65535) = false := by simp; omega
  have h3 : ((R.seq : Int) == 4294967295) = false := by simp; omega
  have w1 : IntKind.u32.wrap ((R.seq : Int) + 1) = (R.seq : Int) + 1 := by have := ok.seq; rw [IntKind.wrap_u32']; omega
  have w2 : IntKind.u16.wrap ((R.inc : Int) + 1) = (R.inc : Int) + 1 := by have := ok.inc; rw [IntKind.wrap_u16]; omega
  clear h h2
  clear hc hR hk ok hs
  go_enter Tryd.func30, Tryd.ntmps30
  go_wp2_with fail
  refine (HC.out _).mono ?_
  rintro e w1 ⟨rfl, b1⟩
  have hb1 : w1.heap[w.heap.size]? = some (.cells #[.int .u32 0, .int .u16 0, .string ⟨#[]⟩] 25 (0, 0)) := (b1.block _ (by simp)).trans (heap_alloc_new w _)
  have bw1 := box_below b1
  obtain ⟨q, hq⟩ : ∃ q, w1.heap.size = q := ⟨_, rfl⟩
  obtain ⟨w2, hw2⟩ : ∃ w2, w1.alloc (.cells #[.int .u32 R.seq, .int .u16 R.inc, .string (ofL R.data)] 25) = w2 := ⟨_, rfl⟩
  have hb2 : w2.heap[w.heap.size]? = some (.cells #[.int .u32 0, .int .u16 0, .string ⟨#[]⟩] 25 (0, 0)) := by rw [← hw2]; exact old_alloc hb1 _
  have hr2 : w2.heap[q]? = some (.cells #[.int .u32 R.seq, .int .u16 R.inc, .string (ofL R.data)] 25 (0, 0)) := by rw [← hw2, ← hq]; exact heap_alloc_new w1 _
  have bw2 : Below w.heap.size w w2 := by rw [← hw2]; exact bw1.alloc bw1.size _
  have hq1 : w.heap.size < q := by rw [← hq]; exact (Array.getElem?_eq_some_iff.1 hb1).1
  have hne1 : q ≠ w.heap.size := by omega
  have hne2 : w.heap.size ≠ q := by omega
  have HW2 := hide hw2; have HQ := hide hq
  clear hw2 hq b1 hb1 bw1
  go_upto_region 6 with (fail)
  rw [HQ.out, HW2.out]
  have c0 : w2.cell? ⟨q, 0, none⟩ = some (.int .u32 R.seq) := blk_cell hr2 0
  have c1 : w2.cell? ⟨q, 1, none⟩ = some (.int .u16 R.inc) := blk_cell hr2 1
  have c2 : w2.cell? ⟨q, 2, none⟩ = some (.string (ofL R.data)) := blk_cell hr2 2
  have e0 : w2.cell? ⟨w.heap.size, 0, none⟩ = some (.int .u32 0) := blk_cell hb2 0
  have e1 : w2.cell? ⟨w.heap.size, 1, none⟩ = some (.int .u16 0) := blk_cell hb2 1
  have e2 : w2.cell? ⟨w.heap.size, 2, none⟩ = some (.string ⟨#[]⟩) := blk_cell hb2 2
  have g0 : w2.frozen? ⟨w.heap.size, 0, none⟩ = false := blk_frozen hb2 0
  have g1 : w2.frozen? ⟨w.heap.size, 1, none⟩ = false := blk_frozen hb2 1
  have g2 : w2.frozen? ⟨w.heap.size, 2, none⟩ = false := blk_frozen hb2 2
  have HB2 := hide hb2; have BW2 := hide bw2
  clear hb2 bw2 hr2
  go_wp2
  obtain ⟨hb8, b8⟩ := rec_put HB2.out BW2.out (Nat.le_refl _) (.int .u32 ((R.seq : Int) + 1)) (.int .u16 ((R.inc : Int) + 1)) (.string (ofL R.data))
  generalize ((w2.setCell ⟨w.heap.size, 0, none⟩ (.int .u32 ((R.seq : Int) + 1))).setCell ⟨w.heap.size, 1, none⟩ (.int .u16 ((R.inc : Int) + 1))).setCell ⟨w.heap.size, 2, none⟩ (.string (ofL R.data)) = W8 at hb8 b8 ⊢
  have c80 : W8.cell? ⟨w.heap.size, 0, none⟩ = some (.int .u32 ((R.seq : Int) + 1)) := blk_cell hb8 0
  have c81 : W8.cell? ⟨w.heap.size, 1, none⟩ = some (.int .u16 ((R.inc : Int) + 1)) := blk_cell hb8 1
  have c82 : W8.cell? ⟨w.heap.size, 2, none⟩ = some (.string (ofL R.data)) := blk_cell hb8 2
  exact bodyPost_ret (v := .tuple #[.agg #[.int .u32 ((R.seq : Int) + 1), .int .u16 ((R.inc : Int) + 1), .string (ofL R.data)], .int .i64 0]) (by simp [results, Tryd.results30, go_sem, c80, c81, c82]) rfl ⟨rfl, b8⟩

set_option maxHeartbeats 1000000 in
theorem rnext_ok0 (s : ByteArray) (boot : Bool) (inc : Nat) (data : ByteArray) (hs2 : s.size ≤ 1000) (hi : inc < 65536) (hd2 : data.size ≤ 1000) (hs : 148 ≤ s.size) {R : Rec} (hR : (newestR s.data.toList).2 = R) (hd : data.size ≤ 64) (h2 : R.seq ≠ 4294967295) (w : World) :
    Calls Tryd.prog 30 #[.string s, .bool false, .int .u16 inc, .string data] w fun e w' => e = .returned (.tuple #[.agg #[.int .u32 ((R.seq : Int) + 1), .int .u16 inc, .string data], .int .i64 0]) ∧ Below w.heap.size w w' := by
  have ok : R.ok := hR ▸ newestR_ok _
  have hc := fun W => rnewest_any s hs hs2 W
  rw [hR] at hc
  obtain ⟨k, hk⟩ : ∃ k, (newestR s.data.toList).1 = k := ⟨_, rfl⟩
  rw [hk] at hc
  unfold Rec.v at hc
  have HC := hide hc
  have hss : ((s.size : Int) < 148) = False := eq_false (by omega)
  have h3 : ((R.seq : Int) == 4294967295) = false := by simp; omega
  have w1 : IntKind.u32.wrap ((R.seq : Int) + 1) = (R.seq : Int) + 1 := by have := ok.seq; rw [IntKind.wrap_u32']; omega
  have hd3 : ((data.size : Int) ≤ 64) := by omega
  clear h2
  clear hc hR hk ok hs
  go_enter Tryd.func30, Tryd.ntmps30
  go_wp2_with fail
  refine (HC.out _).mono ?_
  rintro e w1 ⟨rfl, b1⟩
  have hb1 : w1.heap[w.heap.size]? = some (.cells #[.int .u32 0, .int .u16 0, .string ⟨#[]⟩] 25 (0, 0)) := (b1.block _ (by simp)).trans (heap_alloc_new w _)
  have bw1 := box_below b1
  obtain ⟨q, hq⟩ : ∃ q, w1.heap.size = q := ⟨_, rfl⟩
  obtain ⟨w2, hw2⟩ : ∃ w2, w1.alloc (.cells #[.int .u32 R.seq, .int .u16 R.inc, .string (ofL R.data)] 25) = w2 := ⟨_, rfl⟩
  have hb2 : w2.heap[w.heap.size]? = some (.cells #[.int .u32 0, .int .u16 0, .string ⟨#[]⟩] 25 (0, 0)) := by rw [← hw2]; exact old_alloc hb1 _
  have hr2 : w2.heap[q]? = some (.cells #[.int .u32 R.seq, .int .u16 R.inc, .string (ofL R.data)] 25 (0, 0)) := by rw [← hw2, ← hq]; exact heap_alloc_new w1 _
  have bw2 : Below w.heap.size w w2 := by rw [← hw2]; exact bw1.alloc bw1.size _
  have hq1 : w.heap.size < q := by rw [← hq]; exact (Array.getElem?_eq_some_iff.1 hb1).1
  have hne1 : q ≠ w.heap.size := by omega
  have hne2 : w.heap.size ≠ q := by omega
  have HW2 := hide hw2; have HQ := hide hq
  clear hw2 hq b1 hb1 bw1
  go_upto_region 6 with (fail)
  rw [HQ.out, HW2.out]
  have c0 : w2.cell? ⟨q, 0, none⟩ = some (.int .u32 R.seq) := blk_cell hr2 0
  have c1 : w2.cell? ⟨q, 1, none⟩ = some (.int .u16 R.inc) := blk_cell hr2 1
  have c2 : w2.cell? ⟨q, 2, none⟩ = some (.string (ofL R.data)) := blk_cell hr2 2
  have e0 : w2.cell? ⟨w.heap.size, 0, none⟩ = some (.int .u32 0) := blk_cell hb2 0
  have e1 : w2.cell? ⟨w.heap.size, 1, none⟩ = some (.int .u16 0) := blk_cell hb2 1
  have e2 : w2.cell? ⟨w.heap.size, 2, none⟩ = some (.string ⟨#[]⟩) := blk_cell hb2 2
  have g0 : w2.frozen? ⟨w.heap.size, 0, none⟩ = false := blk_frozen hb2 0
  have g1 : w2.frozen? ⟨w.heap.size, 1, none⟩ = false := blk_frozen hb2 1
  have g2 : w2.frozen? ⟨w.heap.size, 2, none⟩ = false := blk_frozen hb2 2
  have HB2 := hide hb2; have BW2 := hide bw2
  clear hb2 bw2 hr2
  go_wp2
  obtain ⟨hb8, b8⟩ := rec_put HB2.out BW2.out (Nat.le_refl _) (.int .u32 ((R.seq : Int) + 1)) (.int .u16 inc) (.string data)
  generalize ((w2.setCell ⟨w.heap.size, 0, none⟩ (.int .u32 ((R.seq : Int) + 1))).setCell ⟨w.heap.size, 1, none⟩ (.int .u16 inc)).setCell ⟨w.heap.size, 2, none⟩ (.string data) = W8 at hb8 b8 ⊢
  have c80 : W8.cell? ⟨w.heap.size, 0, none⟩ = some (.int .u32 ((R.seq : Int) + 1)) := blk_cell hb8 0
  have c81 : W8.cell? ⟨w.heap.size, 1, none⟩ = some (.int .u16 inc) := blk_cell hb8 1
  have c82 : W8.cell? ⟨w.heap.size, 2, none⟩ = some (.string data) := blk_cell hb8 2
  exact bodyPost_ret (v := .tuple #[.agg #[.int .u32 ((R.seq : Int) + 1), .int .u16 inc, .string data], .int .i64 0]) (by simp [results, Tryd.results30, go_sem, c80, c81, c82]) rfl ⟨rfl, b8⟩

end Go.Proofs.YtocbaapnajdcfaaDoor
