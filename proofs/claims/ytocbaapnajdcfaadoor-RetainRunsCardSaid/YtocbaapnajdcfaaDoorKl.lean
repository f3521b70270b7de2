/- The statement's 'load', walked. -/
import Derived.Test.YtocbaapnajdcfaaDoorKp
namespace Go.Proofs.YtocbaapnajdcfaaDoor
open Go.RowKit
set_option linter.unusedVariables false
set_option linter.unusedSimpArgs false
attribute [local go_sem] ofL_toList
attribute [local go_sem] rec_eq10

set_option maxRecDepth 100000 in
set_option maxHeartbeats 2000000 in
theorem load07_small {w : World} {g h cap : Nat} {s : St} (k : StAt w g h cap s) (hl : s.b.length < 148) :
    Calls Tryd.prog 21 #[.pointer (some ⟨g, 0, none⟩)] w fun e w' => e = .returned (.bool true) ∧ Below w.heap.size w w' := by
  have hn : newestP s.b = (0, Rec.zero, false) := by unfold newestP; rw [if_pos hl]
  have HL := hide (load_any k)
  rw [hn] at HL
  unfold Rec.v Rec.zero at HL
  simp only [ofL_nil] at HL
  have hz := ofL_size s.b
  obtain ⟨SB, hSB⟩ : ∃ SB, ofL s.b = SB := ⟨_, rfl⟩
  rw [hSB] at hz
  have K := hide k; have HSB := hide hSB
  have hi : (SB.size : Int) < 148 := by omega
  clear k hn hl hSB hz
  go_enter Tryd.func21, Tryd.ntmps21
  go_wp2_with fail
  refine HL.out.mono ?_
  rintro e w1 ⟨rfl, b1⟩
  have HB := hide (bytes_any (K.out.below (b1.alloc b1.size (.cells #[.int .u32 (0 : Nat), .int .u16 (0 : Nat), .string ⟨#[]⟩] 25))))
  rw [HSB.out] at HB
  have B1 := hide b1
  clear b1
  go_wp2_with fail
  refine HB.out.mono ?_
  rintro e w' ⟨rfl, rfl⟩
  go_wp2_with fail
  go_ret
  exact ⟨rfl, B1.out.alloc B1.out.size _⟩

set_option maxRecDepth 100000 in
set_option maxHeartbeats 2000000 in
theorem load07_great {w : World} {g h cap : Nat} {s : St} (k : StAt w g h cap s) (hl : 148 ≤ s.b.length) :
    Calls Tryd.prog 21 #[.pointer (some ⟨g, 0, none⟩)] w fun e w' => e = .returned (.bool true) ∧ Below w.heap.size w w' := by
  obtain ⟨e1, e2⟩ := newest_eq hl
  obtain ⟨i, R, f, hA⟩ : ∃ i R f, newestP s.b = (i, R, f) := ⟨_, _, _, rfl⟩
  obtain ⟨j, T, hB⟩ : ∃ j T, newestR s.b = (j, T) := ⟨_, _, rfl⟩
  have hat := newestP_at s.b
  rw [hA, hB] at e1 e2
  rw [hA] at hat
  simp only at e1 e2 hat
  subst e1
  have hz := ofL_size s.b
  obtain ⟨SB, hSB⟩ : ∃ SB, ofL s.b = SB := ⟨_, rfl⟩
  have hSBd : SB.data.toList = s.b := by rw [← hSB, ofL_data]
  rw [hSB] at hz
  have hsm := k.small
  have HL := hide (load_any k)
  have HN := hide (fun W => rnewest_any SB (by omega) (by omega) W)
  rw [hSBd, hB] at HN
  rw [hA] at HL
  unfold Rec.v at HL HN
  simp only at HL HN
  have K := hide k; have HSB := hide hSB
  have hi : ¬ (SB.size : Int) < 148 := by omega
  have hj : decide ((0 : Int) ≤ j) = f := by
    rw [e2]
    cases f <;> simp <;> omega
  have HJ := hide hj
  clear k hA hB hl hSB hSBd hz hsm e2 hat hj
  go_enter Tryd.func21, Tryd.ntmps21
  go_wp2_with fail
  refine HL.out.mono ?_
  rintro e w1 ⟨rfl, b1⟩
  obtain ⟨q, hq⟩ : ∃ q, w1.heap.size = q := ⟨_, rfl⟩
  obtain ⟨w2, hw2⟩ : ∃ w2, w1.alloc (.cells #[.int .u32 T.seq, .int .u16 T.inc, .string (ofL T.data)] 25) = w2 := ⟨_, rfl⟩
  have hq2 : w2.heap[q]? = some (.cells #[.int .u32 T.seq, .int .u16 T.inc, .string (ofL T.data)] 25 (0, 0)) := by rw [← hw2, ← hq]; exact heap_alloc_new w1 _
  have B2 := hide (show Below w.heap.size w w2 by rw [← hw2]; exact b1.alloc b1.size _)
  have HB := hide (bytes_any (K.out.below B2.out))
  rw [HSB.out] at HB
  have HQ2 := hide hq2; have HW2 := hide hw2; have HQ := hide hq
  clear b1 hq2 hw2 hq
  go_upto_region 2 with (fail)
  rw [HQ.out, HW2.out]
  go_wp2_with fail
  refine HB.out.mono ?_
  rintro e w' ⟨rfl, rfl⟩
  go_wp2_with fail
  refine (HN.out _).mono ?_
  rintro e w3 ⟨rfl, b3⟩
  have hq3 := (b3.block _ (Array.getElem?_eq_some_iff.1 HQ2.out).1).trans HQ2.out
  obtain ⟨p, hp⟩ : ∃ p, w3.heap.size = p := ⟨_, rfl⟩
  obtain ⟨w4, hw4⟩ : ∃ w4, w3.alloc (.cells #[.int .u32 T.seq, .int .u16 T.inc, .string (ofL T.data)] 25) = w4 := ⟨_, rfl⟩
  have hq4 : w4.heap[q]? = some (.cells #[.int .u32 T.seq, .int .u16 T.inc, .string (ofL T.data)] 25 (0, 0)) := by rw [← hw4]; exact old_alloc hq3 _
  have hp4 : w4.heap[p]? = some (.cells #[.int .u32 T.seq, .int .u16 T.inc, .string (ofL T.data)] 25 (0, 0)) := by rw [← hw4, ← hp]; exact heap_alloc_new w3 _
  have b4 : Below w.heap.size w w4 := by
    have b := B2.out.trans (b3.mono B2.out.size)
    rw [← hw4]; exact b.alloc b.size _
  have HW4 := hide hw4; have HP := hide hp; have B4 := hide b4
  clear hw4 hp b4 b3 hq3
  go_upto_region 6 with (fail)
  rw [HP.out, HW4.out]
  have c0 : w4.cell? ⟨q, 0, none⟩ = some (.int .u32 T.seq) := blk_cell hq4 0
  have c1 : w4.cell? ⟨q, 1, none⟩ = some (.int .u16 T.inc) := blk_cell hq4 1
  have c2 : w4.cell? ⟨q, 2, none⟩ = some (.string (ofL T.data)) := blk_cell hq4 2
  have d0 : w4.cell? ⟨p, 0, none⟩ = some (.int .u32 T.seq) := blk_cell hp4 0
  have d1 : w4.cell? ⟨p, 1, none⟩ = some (.int .u16 T.inc) := blk_cell hp4 1
  have d2 : w4.cell? ⟨p, 2, none⟩ = some (.string (ofL T.data)) := blk_cell hp4 2
  have hj2 : (f == decide ((0 : Int) ≤ j)) = true := by rw [HJ.out]; simp
  clear hq4 hp4
  go_wp2
  go_ret
  exact ⟨by simp, B4.out⟩

theorem load07_any {w : World} {g h cap : Nat} {s : St} (k : StAt w g h cap s) :
    Calls Tryd.prog 21 #[.pointer (some ⟨g, 0, none⟩)] w fun e w' => e = .returned (.bool true) ∧ Below w.heap.size w w' := by
  by_cases hl : s.b.length < 148
  · exact load07_small k hl
  · exact load07_great k (by omega)
end Go.Proofs.YtocbaapnajdcfaaDoor
