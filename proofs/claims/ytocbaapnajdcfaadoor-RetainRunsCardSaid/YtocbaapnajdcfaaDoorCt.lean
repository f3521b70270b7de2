/- The walks of the reference of layer 7: Whole, Newest. -/
import Derived.Test.YtocbaapnajdcfaaDoorCs
namespace Go.Proofs.YtocbaapnajdcfaaDoor
open Go.RowKit
set_option linter.unusedVariables false
set_option linter.unusedSimpArgs false

/-- The record that stands in a slot's bytes. -/
def recOf (l : List UInt8) : Rec := ⟨numB ((l.drop 1).take 4), numB ((l.drop 5).take 2), (l.drop 8).take (numB ((l.drop 7).take 1))⟩
/-- Is a slot whole, as the reference says? -/
def wholeR (l : List UInt8) : Bool := decide (numB (l.take 1) = 165) && decide (numB ((l.drop 7).take 1) ≤ 64) && decide (slotL (recOf l) = l.drop 1)

def WholeRes (l : List UInt8) (w : World) (e : Ending) (w' : World) : Prop :=
  ∃ R : Rec, R.ok ∧ (wholeR l = true → R = recOf l) ∧ e = .returned (.tuple #[.agg R.v, .bool (wholeR l)]) ∧ Below w.heap.size w w'

theorem numB_one (c : UInt8) : numB [c] = c.toNat := by simp [numB]
theorem take_one {l : List UInt8} {k : Nat} (h : k < l.length) : (l.drop k).take 1 = [l[k]] := by
  rw [List.drop_eq_getElem_cons h]; rfl
theorem recOf_ok {l : List UInt8} (h : numB ((l.drop 7).take 1) ≤ 64) : (recOf l).ok := by
  refine ⟨?_, ?_, ?_⟩
  · have h1 := numB_lt ((l.drop 1).take 4)
    have h2 : ((l.drop 1).take 4).length ≤ 4 := List.length_take_le _ _
    have h3 : 256 ^ ((l.drop 1).take 4).length ≤ 256 ^ 4 := Nat.pow_le_pow_right (by omega) h2
    exact Nat.lt_of_lt_of_le h1 h3
  · have h1 := numB_lt ((l.drop 5).take 2)
    have h2 : ((l.drop 5).take 2).length ≤ 2 := List.length_take_le _ _
    have h3 : 256 ^ ((l.drop 5).take 2).length ≤ 256 ^ 2 := Nat.pow_le_pow_right (by omega) h2
    exact Nat.lt_of_lt_of_le h1 h3
  · exact Nat.le_trans (List.length_take_le _ _) h
theorem zero_ok : Rec.zero.ok := ⟨by decide, by decide, by decide⟩

theorem zero_v : Rec.zero.v = #[.int .u32 0, .int .u16 0, .string ⟨#[]⟩] := rfl

theorem rwhole_no (s : ByteArray) (hs : s.size = 74) (hy : ¬ (numB (s.data.toList.take 1) = 165 ∧ numB ((s.data.toList.drop 7).take 1) ≤ 64)) (w : World) :
    Calls Tryd.prog 38 #[.string s] w fun e w' => e = .returned (.tuple #[.agg #[.int .u32 0, .int .u16 0, .string ⟨#[]⟩], .bool false]) ∧ Below w.heap.size w w' := by
  have ls := size_data s
  have p0 : 0 < s.size := by omega
  have p7 : 7 < s.size := by omega
  have h0 : numB (s.data.toList.take 1) = (s[0]'p0).toNat := by
    have := take_one (l := s.data.toList) (k := 0) (by omega)
    rw [List.drop_zero] at this
    rw [this, numB_one]
    rfl
  have h7 : numB ((s.data.toList.drop 7).take 1) = (s[7]'p7).toNat := by rw [take_one (by omega), numB_one]; rfl
  rw [h0, h7] at hy
  by_cases c0 : (s[0]'p0).toNat = 165
  · have d0 : (((s[0]'p0).toNat : Int) != 165) = false := by rw [c0]; rfl
    have d7 : decide ((64 : Int) < ((s[7]'p7).toNat : Int)) = true := by simp; omega
    have i7 : (7 : Int) < (s.size : Int) := by omega
    have i0 : (0 : Int) < (s.size : Int) := by omega
    clear hy h0 h7 c0 ls hs
    go_enter Tryd.func38, Tryd.ntmps38
    go_wp2
    exact bodyPost_ret (v := .tuple #[.agg #[.int .u32 0, .int .u16 0, .string ⟨#[]⟩], .bool false]) (by simp [results, Tryd.results38, go_sem]) rfl ⟨rfl, ((Below.refl _ _).alloc (Nat.le_refl _) _)⟩
  · have d0 : (((s[0]'p0).toNat : Int) != 165) = true := by simp; omega
    have i0 : (0 : Int) < (s.size : Int) := by omega
    clear hy h0 h7 ls hs c0
    go_enter Tryd.func38, Tryd.ntmps38
    go_wp2
    exact bodyPost_ret (v := .tuple #[.agg #[.int .u32 0, .int .u16 0, .string ⟨#[]⟩], .bool false]) (by simp [results, Tryd.results38, go_sem]) rfl ⟨rfl, ((Below.refl _ _).alloc (Nat.le_refl _) _)⟩

/-- A record in block g. -/
def RecAt (w : World) (g : Nat) (a b : Nat) (d : List UInt8) : Prop := w.heap[g]? = some (.cells #[.int .u32 a, .int .u16 b, .string (ofL d)] 25 (0, 0))

theorem low_only {B g : Nat} {a w w' : World} (b : Below B a w) (o : Only g g w w') (hg : B ≤ g) (hB : B ≤ w.heap.size) : Below B a w' := o.below b hg hg hB

set_option maxHeartbeats 1000000 in
theorem rwhole_yes (s : ByteArray) (hs : s.size = 74) (h0 : numB (s.data.toList.take 1) = 165) (h7 : numB ((s.data.toList.drop 7).take 1) ≤ 64) (w : World) :
    Calls Tryd.prog 38 #[.string s] w fun e w' => e = .returned (.tuple #[.agg (recOf s.data.toList).v, .bool (wholeR s.data.toList)]) ∧ Below w.heap.size w w' := by
  have ls := size_data s
  obtain ⟨l, hl⟩ : ∃ l, s.data.toList = l := ⟨_, rfl⟩
  rw [hl] at h0 h7 ls ⊢
  have p0 : 0 < s.size := by omega
  have p7 : 7 < s.size := by omega
  have e0 : numB (l.take 1) = (s[0]'p0).toNat := by
    have := take_one (l := s.data.toList) (k := 0) (by rw [hl]; omega)
    rw [List.drop_zero] at this
    rw [← hl, this, numB_one]
    rfl
  have e7 : numB ((l.drop 7).take 1) = (s[7]'p7).toNat := by rw [← hl, take_one (by rw [hl]; omega), numB_one]; rfl
  have d0 : (((s[0]'p0).toNat : Int) != 165) = false := by rw [← e0, h0]; rfl
  have d7 : decide ((64 : Int) < ((s[7]'p7).toNat : Int)) = false := by rw [← e7]; simp; omega
  have i7 : (7 : Int) < (s.size : Int) := by omega
  have i0 : (0 : Int) < (s.size : Int) := by omega
  have i1 : (1 : Int) ≤ (s.size : Int) := by omega
  have ex : s.extract 1 s.size = ofL (l.drop 1) := by
    apply ofL_eq
    rw [data_extract, hl, List.take_of_length_le (by rw [List.length_drop]; omega)]
  obtain ⟨L, hL⟩ : ∃ L, l.drop 1 = L := ⟨_, rfl⟩
  have hLl : L.length = 73 := by rw [← hL, List.length_drop]; omega
  rw [hL] at ex
  obtain ⟨R, hR⟩ : ∃ R, recOf l = R := ⟨_, rfl⟩
  have r1 : numB (L.take 4) = R.seq := by rw [← hR, ← hL]; rfl
  have r2 : numB ((L.drop 4).take 2) = R.inc := by rw [← hR, ← hL, List.drop_drop]; rfl
  obtain ⟨n, hn⟩ : ∃ n, numB ((l.drop 7).take 1) = n := ⟨_, rfl⟩
  have r3 : numB (((L.drop 4).drop 2).take 1) = n := by rw [← hn, ← hL, List.drop_drop, List.drop_drop]
  have r4 : ((((L.drop 4).drop 2).drop 1).take n) = R.data := by rw [← hR, ← hn, ← hL, List.drop_drop, List.drop_drop, List.drop_drop]; rfl
  have ok : R.ok := hR ▸ recOf_ok (by omega)
  have hw : wholeR l = ((ofL (slotL R)).toList == (ofL L).toList) := by
    unfold wholeR
    rw [h0, hR, hL]
    have : decide (numB ((l.drop 7).take 1) ≤ 64) = true := by simp; omega
    rw [this]
    simp only [decide_true, Bool.true_and]
    rw [ofL_toList, ofL_toList]
    by_cases c : slotL R = L
    · rw [c]; simp
    · simp [c]
  rw [hR, hw]
  have H7 : n ≤ 64 := by omega
  have R1 := hide r1; have R2 := hide r2; have R3 := hide r3; have R4 := hide r4; have OK := hide ok; have HLL := hide hLl
  clear hs ls hl h0 h7 e0 e7 hL hR r1 r2 hn r3 r4 ok hw hLl
  unfold Rec.v
  go_enter Tryd.func38, Tryd.ntmps38
  go_wp2_with fail
  obtain ⟨W0, hW0⟩ : ∃ W0, (w.alloc (.cells #[.int .u32 0, .int .u16 0, .string ⟨#[]⟩] 25)).alloc (.cells #[.string (ofL L), .bool false] 92) = W0 := ⟨_, rfl⟩
  have hb0 : W0.heap[w.heap.size]? = some (.cells #[.int .u32 0, .int .u16 0, .string ⟨#[]⟩] 25 (0, 0)) := by rw [← hW0]; exact old_alloc (heap_alloc_new w _) _
  have k0 : REyeAt W0 (w.heap.size + 1) L := by rw [← hW0]; exact heap_alloc2_new w _ _
  have b0 : Below w.heap.size w W0 := by rw [← hW0]; exact ((Below.refl _ _).alloc (Nat.le_refl _) _).alloc (by simp) _
  have z0 : W0.heap.size = w.heap.size + 2 := by rw [← hW0]; simp
  rw [hW0]
  have HB0 := hide hb0; have B0 := hide b0; have Z0 := hide z0
  have EX := hide ex
  clear hW0 hb0 b0 z0 ex
  have hR2 := R1.out
  refine (renumber_any k0 (by rw [HLL.out]; omega) 4 (by rw [HLL.out]; omega) (by omega)).mono ?_
  rintro e W1 ⟨rfl, k1, o1⟩
  rw [R1.out]
  clear k0 hR2
  have HB1 := hide ((o1.block w.heap.size (by have := Z0.out; omega) (by omega) (by omega)).trans HB0.out)
  have B1 := hide (low_only B0.out o1 (by omega) B0.out.size)
  have z1 : w.heap.size + 2 ≤ W1.heap.size := by have := o1.size; have := Z0.out; omega
  have K1 := hide k1
  have Z1 := hide z1
  clear k1 o1 HB0 B0 Z0 z1
  go_wp2_with fail
  obtain ⟨W2, hW2⟩ : ∃ W2, W1.alloc (.cells #[.int .u32 R.seq, .int .u16 0, .string ⟨#[]⟩] 25) = W2 := ⟨_, rfl⟩
  obtain ⟨q, hq⟩ : ∃ q, W1.heap.size = q := ⟨_, rfl⟩
  have hq2 : w.heap.size + 2 ≤ q := by rw [← hq]; exact Z1.out
  have hr2 : W2.heap[q]? = some (.cells #[.int .u32 R.seq, .int .u16 0, .string ⟨#[]⟩] 25 (0, 0)) := by rw [← hW2, ← hq]; exact heap_alloc_new W1 _
  have k2 : REyeAt W2 (w.heap.size + 1) (L.drop 4) := by rw [← hW2]; exact old_alloc K1.out _
  have HB2 := hide (show W2.heap[w.heap.size]? = some (.cells #[.int .u32 0, .int .u16 0, .string ⟨#[]⟩] 25 (0, 0)) by rw [← hW2]; exact old_alloc HB1.out _)
  have B2 := hide (show Below w.heap.size w W2 by rw [← hW2]; exact B1.out.alloc B1.out.size _)
  have z2 : W2.heap.size = q + 1 := by rw [← hW2, ← hq]; simp only [World.alloc, Array.size_push]
  rw [hW2, hq]
  have HR2 := hide hr2; have Z2 := hide z2
  clear hW2 hq hr2 z2 K1 HB1 B1 Z1
  refine (renumber_any k2 (by rw [List.length_drop, HLL.out]; omega) 2 (by rw [List.length_drop, HLL.out]; omega) (by omega)).mono ?_
  rintro e W3 ⟨rfl, k3, o3⟩
  rw [R2.out]
  clear k2
  have hq3 : q < W3.heap.size := by have := o3.size; have := Z2.out; omega
  have hr3 := (o3.block q (by have := Z2.out; omega) (by omega) (by omega)).trans HR2.out
  have HB3 := hide ((o3.block w.heap.size (by have := Z2.out; omega) (by omega) (by omega)).trans HB2.out)
  have B3 := hide (low_only B2.out o3 (by omega) B2.out.size)
  have wi : IntKind.u16.wrap (R.inc : Int) = (R.inc : Int) := by have := OK.out.inc; rw [IntKind.wrap_u16]; omega
  have c31 : W3.cell? ⟨q, 1, none⟩ = some (.int .u16 0) := blk_cell hr3 1
  have f31 : W3.frozen? ⟨q, 1, none⟩ = false := blk_frozen hr3 1
  have K3 := hide k3
  have HR3 := hide hr3
  clear k3 o3 hr3 HB2 B2 HR2 Z2
  go_wp2_with fail
  clear wi c31 f31
  obtain ⟨W4, hW4⟩ : ∃ W4, W3.setCell ⟨q, 1, none⟩ (.int .u16 R.inc) = W4 := ⟨_, rfl⟩
  have hr4 : W4.heap[q]? = some (.cells #[.int .u32 R.seq, .int .u16 R.inc, .string ⟨#[]⟩] 25 (0, 0)) := by rw [← hW4, set_heap HR3.out 1 _]; rfl
  have k4 : REyeAt W4 (w.heap.size + 1) ((L.drop 4).drop 2) := by
    unfold REyeAt
    rw [← hW4, set_other _ _ (by omega)]
    exact K3.out
  have HB4 := hide (show W4.heap[w.heap.size]? = some (.cells #[.int .u32 0, .int .u16 0, .string ⟨#[]⟩] 25 (0, 0)) by rw [← hW4, set_other _ _ (by omega)]; exact HB3.out)
  have B4 := hide (show Below w.heap.size w W4 by rw [← hW4]; exact B3.out.setCell (p := ⟨q, 1, none⟩) (by show w.heap.size ≤ q; omega) _)
  have z4 : W4.heap.size = W3.heap.size := by rw [← hW4]; simp [World.setCell]
  rw [hW4]
  have HR4 := hide hr4; have Z4 := hide z4
  clear hW4 hr4 z4 K3 HB3 B3
  have hl5 : ((L.drop 4).drop 2).length = 67 := by rw [List.length_drop, List.length_drop, HLL.out]
  have HRS := hide (resmall_any k4 (by omega) n R3.out (by omega))
  rw [R4.out] at HRS
  clear hl5 k4
  refine HRS.out.mono ?_
  rintro e W5 ⟨rfl, _, o5⟩
  clear HRS
  have hq5 : q < W5.heap.size := by have := o5.size; have := Z4.out; omega
  have hr5 := (o5.block q (by have := Z4.out; omega) (by omega) (by omega)).trans HR4.out
  have HB5 := hide ((o5.block w.heap.size (by have := Z4.out; omega) (by omega) (by omega)).trans HB4.out)
  have B5 := hide (low_only B4.out o5 (by omega) B4.out.size)
  have c52 : W5.cell? ⟨q, 2, none⟩ = some (.string ⟨#[]⟩) := blk_cell hr5 2
  have f52 : W5.frozen? ⟨q, 2, none⟩ = false := blk_frozen hr5 2
  have HR5 := hide hr5
  clear o5 hr5 HB4 B4 HR4 Z4 HR3
  go_wp2_with fail
  clear c52 f52
  obtain ⟨W6, hW6⟩ : ∃ W6, W5.setCell ⟨q, 2, none⟩ (.string (ofL R.data)) = W6 := ⟨_, rfl⟩
  have hr6 : W6.heap[q]? = some (.cells #[.int .u32 R.seq, .int .u16 R.inc, .string (ofL R.data)] 25 (0, 0)) := by rw [← hW6, set_heap HR5.out 2 _]; rfl
  have hb6 : W6.heap[w.heap.size]? = some (.cells #[.int .u32 0, .int .u16 0, .string ⟨#[]⟩] 25 (0, 0)) := by rw [← hW6, set_other _ _ (by omega)]; exact HB5.out
  have b6 : Below w.heap.size w W6 := by rw [← hW6]; exact B5.out.setCell (p := ⟨q, 2, none⟩) (by show w.heap.size ≤ q; omega) _
  rw [hW6]
  have c60 : W6.cell? ⟨q, 0, none⟩ = some (.int .u32 R.seq) := blk_cell hr6 0
  have c61 : W6.cell? ⟨q, 1, none⟩ = some (.int .u16 R.inc) := blk_cell hr6 1
  have c62 : W6.cell? ⟨q, 2, none⟩ = some (.string (ofL R.data)) := blk_cell hr6 2
  have d60 : W6.cell? ⟨w.heap.size, 0, none⟩ = some (.int .u32 0) := blk_cell hb6 0
  have d61 : W6.cell? ⟨w.heap.size, 1, none⟩ = some (.int .u16 0) := blk_cell hb6 1
  have d62 : W6.cell? ⟨w.heap.size, 2, none⟩ = some (.string ⟨#[]⟩) := blk_cell hb6 2
  have g60 : W6.frozen? ⟨w.heap.size, 0, none⟩ = false := blk_frozen hb6 0
  have g61 : W6.frozen? ⟨w.heap.size, 1, none⟩ = false := blk_frozen hb6 1
  have g62 : W6.frozen? ⟨w.heap.size, 2, none⟩ = false := blk_frozen hb6 2
  have hq6 : q < W6.heap.size := (Array.getElem?_eq_some_iff.1 hr6).1
  have hw6 : w.heap.size < W6.heap.size := (Array.getElem?_eq_some_iff.1 hb6).1
  have HB6 := hide hb6; have B6 := hide b6
  clear hW6 hr6 hb6 b6 HR5 HB5 B5
  have hne1 : q ≠ w.heap.size := by omega
  have hne2 : w.heap.size ≠ q := by omega
  have HSL := hide (fun W : World => rslot_any R OK.out W)
  unfold Rec.v at HSL
  have e1 : s.extract 1 s.size = ofL L := EX.out
  go_region_held3 (fun w' => w'.cell? ⟨q, 0, none⟩ = some (.int .u32 R.seq) ∧ w'.cell? ⟨q, 1, none⟩ = some (.int .u16 R.inc) ∧ w'.cell? ⟨q, 2, none⟩ = some (.string (ofL R.data)))
    (first | go_keep | (refine ⟨?_, ?_, ?_⟩ <;> first | go_keep | (rw [hb7.cell (by simp [World.setCell]; omega)]; go_keep)))
    ((go_at_call 8; (with_reducible refine (HSL.out _).mono ?_); rintro e w7 ⟨rfl, hb7⟩; have h7d := (fun o => hb7.cell (p := ⟨w.heap.size, o, none⟩) (by simp [World.setCell]; omega)); have h7f := (fun o => hb7.frozen (p := ⟨w.heap.size, o, none⟩) (by simp [World.setCell]; omega))))
  go_wp2_with fail
  have hb70 : w7.heap[w.heap.size]? = some (.cells #[.int .u32 0, .int .u16 0, .string ⟨#[]⟩] 25 (0, 0)) := (hb7.block _ hw6).trans HB6.out
  have hb8 := set_heap (set_heap (set_heap hb70 0 (.int .u32 R.seq)) 1 (.int .u16 R.inc)) 2 (.string (ofL R.data))
  have b7 : Below w.heap.size w w7 := (below_drewN B6.out 1).trans (hb7.mono (Nat.le_of_lt hw6))
  have b8 := ((b7.setCell (p := ⟨w.heap.size, 0, none⟩) (Nat.le_refl _) (.int .u32 R.seq)).setCell (p := ⟨w.heap.size, 1, none⟩) (Nat.le_refl _) (.int .u16 R.inc)).setCell (p := ⟨w.heap.size, 2, none⟩) (Nat.le_refl _) (.string (ofL R.data))
  clear h7d h7f c60 c61 c62 d60 d61 d62 g60 g61 g62 hb7 hb70 b7
  rename_i hHeld
  clear hHeld
  generalize ((w7.setCell ⟨w.heap.size, 0, none⟩ (.int .u32 R.seq)).setCell ⟨w.heap.size, 1, none⟩ (.int .u16 R.inc)).setCell ⟨w.heap.size, 2, none⟩ (.string (ofL R.data)) = W8 at hb8 b8 ⊢
  have c80 : W8.cell? ⟨w.heap.size, 0, none⟩ = some (.int .u32 R.seq) := blk_cell hb8 0
  have c81 : W8.cell? ⟨w.heap.size, 1, none⟩ = some (.int .u16 R.inc) := blk_cell hb8 1
  have c82 : W8.cell? ⟨w.heap.size, 2, none⟩ = some (.string (ofL R.data)) := blk_cell hb8 2
  exact bodyPost_ret (v := .tuple #[.agg #[.int .u32 R.seq, .int .u16 R.inc, .string (ofL R.data)], .bool ((ofL (slotL R)).toList == (ofL L).toList)]) (by simp [results, Tryd.results38, go_sem, c80, c81, c82]) rfl ⟨rfl, b8⟩
end Go.Proofs.YtocbaapnajdcfaaDoor
