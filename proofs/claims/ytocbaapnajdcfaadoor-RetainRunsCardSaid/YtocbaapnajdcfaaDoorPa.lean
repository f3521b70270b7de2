/- The walk of retain.parse. -/
import Derived.Test.YtocbaapnajdcfaaDoorEz
import Derived.Test.YtocbaapnajdcfaaDoorCn
import Derived.Test.YtocbaapnajdcfaaDoorPb
namespace Go.Proofs.YtocbaapnajdcfaaDoor
open Go.RowKit
set_option linter.unusedVariables false
set_option linter.unusedSimpArgs false
attribute [local go_sem] ofL_toList

/-- Is a slot whole, as the program says? -/
def wholeP (l : List UInt8) : Bool :=
  openOk (l.drop 1) && decide (numB (l.take 1) = 165) && decide (numB ((l.drop 7).take 1) ≤ 64) && decide (Lib.trimB ((l.drop (8 + numB ((l.drop 7).take 1))).take (64 - numB ((l.drop 7).take 1))) 0 = [])

set_option maxRecDepth 100000 in
set_option maxHeartbeats 1000000 in
theorem parse_shut (s : ByteArray) (hs : s.size = 74) (hy : openOk (s.data.toList.drop 1) = false) (w : World) :
    Calls Tryd.prog 36 #[.string s] w fun e w' => e = .returned (.tuple #[.agg #[.int .u32 0, .int .u16 0, .string ⟨#[]⟩], .bool false]) ∧ Below w.heap.size w w' := by
  have ls := size_data s
  have ex : s.extract 1 s.size = ofL (s.data.toList.drop 1) := by
    apply ofL_eq
    rw [data_extract, List.take_of_length_le (by rw [List.length_drop]; omega)]
  have hl : (ofL (s.data.toList.drop 1)).size = 73 := by rw [ofL_size, List.length_drop]; omega
  have HC := hide (fun W => copen_no (ofL (s.data.toList.drop 1)) (by omega) (by rw [ofL_data]; exact hy) W)
  generalize s.data.toList.drop 1 = L at *
  have i1 : (1 : Int) ≤ (s.size : Int) := by omega
  clear hs ls hy hl
  go_enter Tryd.func36, Tryd.ntmps36
  go_wp2_with (go_at_call 48; refine (HC.out _).mono ?_; rintro e w' ⟨rfl, rfl⟩)
  exact bodyPost_ret (v := .tuple #[.agg #[.int .u32 0, .int .u16 0, .string ⟨#[]⟩], .bool false]) (by simp [results, Tryd.results36, go_sem]) rfl ⟨rfl, ((Below.refl _ _).alloc (Nat.le_refl _) _)⟩

set_option maxRecDepth 100000 in
set_option maxHeartbeats 1000000 in
theorem parse_mark (s : ByteArray) (hs : s.size = 74) (hy : openOk (s.data.toList.drop 1) = true) (h0 : numB (s.data.toList.take 1) ≠ 165) (w : World) :
    Calls Tryd.prog 36 #[.string s] w fun e w' => e = .returned (.tuple #[.agg #[.int .u32 0, .int .u16 0, .string ⟨#[]⟩], .bool false]) ∧ Below w.heap.size w w' := by
  have ls := size_data s
  have ex : s.extract 1 s.size = ofL (s.data.toList.drop 1) := by
    apply ofL_eq
    rw [data_extract, List.take_of_length_le (by rw [List.length_drop]; omega)]
  have hl : (ofL (s.data.toList.drop 1)).size = 73 := by rw [ofL_size, List.length_drop]; omega
  have HC := hide (fun W => copen_yes (ofL (s.data.toList.drop 1)) (by omega) (by rw [ofL_data]; exact hy) W)
  rw [ofL_data, hl] at HC
  have ex0 : s.extract 0 1 = ofL (s.data.toList.take 1) := by
    apply ofL_eq
    rw [data_extract]; rfl
  have h1 : (s.data.toList.take 1 == [165]) = false := by
    have : s.data.toList.take 1 ≠ [165] := fun h => h0 (by rw [h]; decide)
    simpa using this
  generalize s.data.toList.drop 1 = L at *
  generalize s.data.toList.take 1 = L0 at *
  generalize L.take (73 - 2) = L1 at *
  have i1 : (1 : Int) ≤ (s.size : Int) := by omega
  clear hs ls hy hl h0
  go_enter Tryd.func36, Tryd.ntmps36
  go_wp2_with (go_at_call 48; refine (HC.out _).mono ?_; rintro e w' ⟨rfl, rfl⟩)
  exact bodyPost_ret (v := .tuple #[.agg #[.int .u32 0, .int .u16 0, .string ⟨#[]⟩], .bool false]) (by simp [results, Tryd.results36, go_sem]) rfl ⟨rfl, ((Below.refl _ _).alloc (Nat.le_refl _) _)⟩

set_option maxHeartbeats 400000 in
theorem neweye_any (l : List UInt8) (w : World) : Calls Tryd.prog 49 #[.string (ofL l)] w fun e w' => e = .returned (.pointer (some ⟨w.heap.size, 0, none⟩)) ∧ EyeAt w' w.heap.size l 0 false ∧ Below w.heap.size w w' ∧ w'.heap.size = w.heap.size + 1 := by
  obtain ⟨X, hX⟩ : ∃ X, ofL l = X := ⟨_, rfl⟩
  rw [hX]
  have HX := hide hX
  clear hX
  go_enter Tryd.func49, Tryd.ntmps49
  go_wp2
  go_ret
  refine ⟨rfl, ?_, (Below.refl _ _).alloc (Nat.le_refl _) _, by simp⟩
  unfold EyeAt
  rw [HX.out]
  exact heap_alloc_new w _

/-- A record's block, zero or not, kept over what turns block g alone. -/
theorem blk_keep {w w' : World} {g b : Nat} {o : Obj} (h : w.heap[b]? = some o) (k : Only g g w w') (hne : b ≠ g) : w'.heap[b]? = some o := (k.block b (Array.getElem?_eq_some_iff.1 h).1 hne hne).trans h

set_option maxRecDepth 100000 in
set_option maxHeartbeats 2000000 in
theorem parse_long (s : ByteArray) (hs : s.size = 74) (hy : openOk (s.data.toList.drop 1) = true) (h0 : numB (s.data.toList.take 1) = 165) {n : Nat} (hn : numB ((s.data.toList.drop 7).take 1) = n) (w : World) :
    Calls Tryd.prog 36 #[.string s] w fun e w' => e = .returned (.tuple #[.agg (if wholeP s.data.toList then (recOf s.data.toList).v else Rec.zero.v), .bool (wholeP s.data.toList)]) ∧ Below w.heap.size w w' := by
  have ls := size_data s
  have ex : s.extract 1 s.size = ofL (s.data.toList.drop 1) := by
    apply ofL_eq
    rw [data_extract, List.take_of_length_le (by rw [List.length_drop]; omega)]
  have hl : (ofL (s.data.toList.drop 1)).size = 73 := by rw [ofL_size, List.length_drop]; omega
  have HC := hide (fun W => copen_yes (ofL (s.data.toList.drop 1)) (by omega) (by rw [ofL_data]; exact hy) W)
  rw [ofL_data, hl] at HC
  have ex0 : s.extract 0 1 = ofL (s.data.toList.take 1) := by
    apply ofL_eq
    rw [data_extract]; rfl
  generalize s.data.toList = l at *
  have h1 : (l.take 1 == [165]) = true := by
    have e := take_one (l := l) (k := 0) (by omega)
    rw [List.drop_zero] at e
    rw [e, numB_one] at h0
    rw [e]
    have : l[0] = 165 := UInt8.toNat_inj.1 h0
    rw [this]; decide
  have hn256 : n < 256 := by
    have := numB_lt ((l.drop 7).take 1)
    have h2 : ((l.drop 7).take 1).length = 1 := by rw [List.length_take, List.length_drop]; omega
    rw [h2, hn] at this
    exact this
  obtain ⟨I, hI⟩ : ∃ I, (l.drop 1).take (73 - 2) = I := ⟨_, rfl⟩
  have hIl : I.length = 71 := by rw [← hI, List.length_take, List.length_drop]; omega
  rw [hI] at HC
  obtain ⟨R, hR⟩ : ∃ R, recOf l = R := ⟨_, rfl⟩
  have r1 : numB ((I.drop 0).take 4) = R.seq := by rw [← hR, ← hI, List.drop_zero, List.take_take]; rfl
  have r2 : numB ((I.drop 4).take 2) = R.inc := by
    rw [← hR, ← hI, List.drop_take, List.drop_drop, List.take_take]; rfl
  have r3 : numB ((I.drop 6).take 1) = n := by
    rw [← hn, ← hI, List.drop_take, List.drop_drop, List.take_take]; rfl
  have r4 : n ≤ 64 → (I.drop 7).take n = R.data := fun h => by
    rw [← hR, ← hI, List.drop_take, List.drop_drop, List.take_take, show min n (73 - 2 - 7) = n by omega]
    show _ = (l.drop 8).take (numB ((l.drop 7).take 1))
    rw [hn]
  have r5 : n ≤ 64 → (I.drop (7 + n)).take (71 - (7 + n)) = (l.drop (8 + n)).take (64 - n) := fun h => by
    rw [← hI, List.drop_take, List.drop_drop, List.take_take, show min (71 - (7 + n)) (73 - 2 - (7 + n)) = 64 - n by omega, show 1 + (7 + n) = 8 + n by omega]
  have ok : n ≤ 64 → R.ok := fun h => hR ▸ recOf_ok (by rw [hn]; exact h)
  obtain ⟨T, hT⟩ : ∃ T, (l.drop (8 + n)).take (64 - n) = T := ⟨_, rfl⟩
  have hTl : T.length ≤ 64 := by rw [← hT, List.length_take]; omega
  have hw : wholeP l = (decide (n ≤ 64) && decide (Lib.trimB T 0 = [])) := by
    unfold wholeP
    rw [hy, h0, hn, hT]
    simp
  rw [hT] at r5
  rw [hR]
  obtain ⟨x, hx⟩ : ∃ x, wholeP l = x := ⟨_, rfl⟩
  rw [hx] at hw ⊢
  have i1 : (1 : Int) ≤ (s.size : Int) := by omega
  have R1 := hide r1; have R2 := hide r2; have R3 := hide r3; have R4 := hide r4; have R5 := hide r5; have HI := hide hIl; have HX := hide hw
  generalize l.drop 1 = L at *
  generalize l.take 1 = L0 at *
  clear hs ls hl h0 hy hI hR r1 r2 r3 r4 r5 hT hx hw hIl hn ok
  go_enter Tryd.func36, Tryd.ntmps36
  go_wp2_with (go_at_call 48; refine (HC.out _).mono ?_; rintro e w' ⟨rfl, rfl⟩)
  have hb0 := heap_alloc_new w (.cells #[.int .u32 0, .int .u16 0, .string ⟨#[]⟩] 25)
  have bw0 : Below w.heap.size w (w.alloc (.cells #[.int .u32 0, .int .u16 0, .string ⟨#[]⟩] 25)) := (Below.refl _ _).alloc (Nat.le_refl _) _
  have hz0 : (w.alloc (.cells #[.int .u32 0, .int .u16 0, .string ⟨#[]⟩] 25)).heap.size = w.heap.size + 1 := by simp
  generalize w.alloc (.cells #[.int .u32 0, .int .u16 0, .string ⟨#[]⟩] 25) = w0 at *
  obtain ⟨g, hg⟩ : ∃ g, w0.heap.size = g := ⟨_, rfl⟩
  have HB0 := hide hb0; have BW0 := hide bw0; have HZ0 := hide hz0; have HG := hide hg
  clear hb0 bw0 hz0 hg
  refine (neweye_any I w0).mono ?_
  rintro e w1 ⟨rfl, k1, b1, hz1⟩
  rw [HG.out] at k1 b1 hz1 ⊢
  have hgw : w.heap.size < g := by rw [← HG.out, HZ0.out]; omega
  have hb1 := (b1.block w.heap.size hgw).trans HB0.out
  have bw1 : Below w.heap.size w w1 := BW0.out.trans (b1.mono (Nat.le_of_lt hgw))
  have HC4 := hide (eyefour_any k1 (by rw [HI.out]; omega) (by rw [HI.out]; omega))
  rw [R1.out] at HC4
  have HB1 := hide hb1; have BW1 := hide bw1; have HZ1 := hide hz1
  clear HB0 BW0 HZ0 HG hb1 bw1 hz1 b1 k1
  go_wp2_with fail
  refine HC4.out.mono ?_
  rintro e w2 ⟨rfl, k2, o2⟩
  have HC2 := hide (eyetwo_any k2 (by rw [HI.out]; omega) (by rw [HI.out]; omega))
  rw [R2.out] at HC2
  have HB2 := hide (blk_keep HB1.out o2 (by omega))
  have BW2 := hide (low_only BW1.out o2 (by omega) BW1.out.size)
  have HZ2 := hide (show g < w2.heap.size by have := o2.size; have := HZ1.out; omega)
  clear HC4 k2 o2 HB1 BW1 HZ1
  go_wp2_with fail
  refine HC2.out.mono ?_
  rintro e w3 ⟨rfl, k3, o3⟩
  have HB3 := hide (blk_keep HB2.out o3 (by omega))
  have BW3 := hide (low_only BW2.out o3 (by omega) BW2.out.size)
  have HZ3 := hide (show g < w3.heap.size by have := o3.size; have := HZ2.out; omega)
  have K3 := hide k3
  clear HC2 k3 o3 HB2 BW2 HZ2
  by_cases hn64 : n ≤ 64
  · have HCS := hide (eyesmall_yes K3.out (by rw [HI.out]; omega) (by rw [HI.out]; omega) R3.out (by rw [HI.out]; omega))
    rw [R4.out hn64] at HCS
    go_wp2_with fail
    refine HCS.out.mono ?_
    rintro e w4 ⟨rfl, k4, o4⟩
    have k4' : EyeAt w4 g I (7 + n) false := k4
    have hb4 := blk_keep HB3.out o4 (by omega)
    have bw4 := low_only BW3.out o4 (by omega) BW3.out.size
    have hz4 : g < w4.heap.size := by have := o4.size; have := HZ3.out; omega
    obtain ⟨q, hq⟩ : ∃ q, w4.heap.size = q := ⟨_, rfl⟩
    obtain ⟨w5, hw5⟩ : ∃ w5, w4.alloc (.cells #[.int .u32 R.seq, .int .u16 R.inc, .string (ofL R.data)] 25) = w5 := ⟨_, rfl⟩
    have k5 : EyeAt w5 g I (7 + n) false := by rw [← hw5]; exact old_alloc k4' _
    have HB5 := hide (show w5.heap[w.heap.size]? = some (.cells #[.int .u32 0, .int .u16 0, .string ⟨#[]⟩] 25 (0, 0)) by rw [← hw5]; exact old_alloc hb4 _)
    have HR5 := hide (show w5.heap[q]? = some (.cells #[.int .u32 R.seq, .int .u16 R.inc, .string (ofL R.data)] 25 (0, 0)) by rw [← hw5, ← hq]; exact heap_alloc_new w4 _)
    have BW5 := hide (show Below w.heap.size w w5 by rw [← hw5]; exact bw4.alloc bw4.size _)
    have hgq : g < q := by rw [← hq]; exact hz4
    have HW5 := hide hw5; have HQ := hide hq; have K5 := hide k5
    clear HCS k4 k4' o4 hb4 bw4 hz4 hw5 hq HB3 BW3 HZ3 K3 k5
    go_wp2_with fail
    rw [HQ.out, HW5.out]
    refine (eyeblind_any K5.out).mono ?_
    rintro e w' ⟨rfl, rfl⟩
    have HL := hide (eyeleft_any K5.out (by rw [HI.out]; omega) (by rw [HI.out]; omega))
    rw [HI.out] at HL
    go_wp2_with fail
    refine HL.out.mono ?_
    rintro e w6 ⟨rfl, k6, o6⟩
    have HT := hide (take_yes k6 (by rw [HI.out]; omega) (71 - (7 + n)) (by rw [HI.out]; omega))
    rw [R5.out hn64] at HT
    have HB6 := hide (blk_keep HB5.out o6 (by omega))
    have HR6 := hide (blk_keep HR5.out o6 (by omega))
    have BW6 := hide (low_only BW5.out o6 (by omega) BW5.out.size)
    clear HL k6 o6 HB5 HR5 BW5 K5
    go_wp2_with fail
    refine HT.out.mono ?_
    rintro e w7 ⟨rfl, k7, o7⟩
    have HB7 := hide (blk_keep HB6.out o7 (by omega))
    have HR7 := hide (blk_keep HR6.out o7 (by omega))
    have BW7 := hide (low_only BW6.out o7 (by omega) BW6.out.size)
    have HTR := hide (Tryd.strings_Trim_one (ofL T) 0 (by decide) w7 (by rw [ofL_size]; omega))
    rw [ofL_data] at HTR
    clear HT k7 o7 HB6 HR6 BW6
    go_wp2_with fail
    refine HTR.out.mono ?_
    rintro e w8 ⟨rfl, h8⟩
    obtain ⟨nd, hnd⟩ : ∃ nd, w8 = w7.drewN nd := by
      rcases h8 with h8 | h8
      · exact ⟨0, h8⟩
      · exact ⟨1, h8⟩
    subst hnd
    have hb8 : (w7.drewN nd).heap[w.heap.size]? = some (.cells #[.int .u32 0, .int .u16 0, .string ⟨#[]⟩] 25 (0, 0)) := HB7.out
    have hr8 : (w7.drewN nd).heap[q]? = some (.cells #[.int .u32 R.seq, .int .u16 R.inc, .string (ofL R.data)] 25 (0, 0)) := HR7.out
    have bw8 := below_drewN BW7.out nd
    clear h8 HTR HB7 HR7 BW7
    generalize w7.drewN nd = w8 at *
    have c0 : w8.cell? ⟨q, 0, none⟩ = some (.int .u32 R.seq) := blk_cell hr8 0
    have c1 : w8.cell? ⟨q, 1, none⟩ = some (.int .u16 R.inc) := blk_cell hr8 1
    have c2 : w8.cell? ⟨q, 2, none⟩ = some (.string (ofL R.data)) := blk_cell hr8 2
    have e0 : w8.cell? ⟨w.heap.size, 0, none⟩ = some (.int .u32 0) := blk_cell hb8 0
    have e1 : w8.cell? ⟨w.heap.size, 1, none⟩ = some (.int .u16 0) := blk_cell hb8 1
    have e2 : w8.cell? ⟨w.heap.size, 2, none⟩ = some (.string ⟨#[]⟩) := blk_cell hb8 2
    have g0 : w8.frozen? ⟨w.heap.size, 0, none⟩ = false := blk_frozen hb8 0
    have g1 : w8.frozen? ⟨w.heap.size, 1, none⟩ = false := blk_frozen hb8 1
    have g2 : w8.frozen? ⟨w.heap.size, 2, none⟩ = false := blk_frozen hb8 2
    have HB8 := hide hb8; have BW8 := hide bw8
    clear hb8 hr8 bw8
    obtain ⟨Z, hZ⟩ : ∃ Z, Lib.trimB T 0 = Z := ⟨_, rfl⟩
    have hx := HX.out
    rw [hZ] at hx ⊢
    have hd : decide (n ≤ 64) = true := by simpa using hn64
    rw [hd, Bool.true_and] at hx
    clear hd hZ
    by_cases hZ0 : Z = []
    · subst hZ0
      simp only [decide_true] at hx
      subst hx
      go_wp2_with fail
      obtain ⟨hb9, b9⟩ := rec_put HB8.out BW8.out (Nat.le_refl _) (.int .u32 R.seq) (.int .u16 R.inc) (.string (ofL R.data))
      generalize ((w8.setCell ⟨w.heap.size, 0, none⟩ (.int .u32 R.seq)).setCell ⟨w.heap.size, 1, none⟩ (.int .u16 R.inc)).setCell ⟨w.heap.size, 2, none⟩ (.string (ofL R.data)) = W8 at hb9 b9 ⊢
      have c80 : W8.cell? ⟨w.heap.size, 0, none⟩ = some (.int .u32 R.seq) := blk_cell hb9 0
      have c81 : W8.cell? ⟨w.heap.size, 1, none⟩ = some (.int .u16 R.inc) := blk_cell hb9 1
      have c82 : W8.cell? ⟨w.heap.size, 2, none⟩ = some (.string (ofL R.data)) := blk_cell hb9 2
      exact bodyPost_ret (v := .tuple #[.agg #[.int .u32 R.seq, .int .u16 R.inc, .string (ofL R.data)], .bool true]) (by simp [results, Tryd.results36, go_sem, c80, c81, c82]) rfl ⟨rfl, b9⟩
    · have hZ1 : Z.isEmpty = false := by cases Z with
        | nil => exact absurd rfl hZ0
        | cons a b => rfl
      simp only [hZ0, decide_false] at hx
      subst hx
      clear hZ0
      go_wp2_with fail
      obtain ⟨hb9, b9⟩ := rec_put HB8.out BW8.out (Nat.le_refl _) (.int .u32 0) (.int .u16 0) (.string ⟨#[]⟩)
      generalize ((w8.setCell ⟨w.heap.size, 0, none⟩ (.int .u32 0)).setCell ⟨w.heap.size, 1, none⟩ (.int .u16 0)).setCell ⟨w.heap.size, 2, none⟩ (.string ⟨#[]⟩) = W8 at hb9 b9 ⊢
      have c80 : W8.cell? ⟨w.heap.size, 0, none⟩ = some (.int .u32 0) := blk_cell hb9 0
      have c81 : W8.cell? ⟨w.heap.size, 1, none⟩ = some (.int .u16 0) := blk_cell hb9 1
      have c82 : W8.cell? ⟨w.heap.size, 2, none⟩ = some (.string ⟨#[]⟩) := blk_cell hb9 2
      exact bodyPost_ret (v := .tuple #[.agg #[.int .u32 0, .int .u16 0, .string ⟨#[]⟩], .bool false]) (by simp [results, Tryd.results36, go_sem, c80, c81, c82]) rfl ⟨rfl, b9⟩
  · have HCS := hide (eyesmall_no K3.out (by rw [HI.out]; omega) (by rw [HI.out]; omega) R3.out (by rw [HI.out]; omega) hn256)
    go_wp2_with fail
    refine HCS.out.mono ?_
    rintro e w4 ⟨rfl, k4, o4⟩
    have k4' : EyeAt w4 g I 7 true := k4
    have hb4 := blk_keep HB3.out o4 (by omega)
    have bw4 := low_only BW3.out o4 (by omega) BW3.out.size
    obtain ⟨w5, hw5⟩ : ∃ w5, w4.alloc (.cells #[.int .u32 R.seq, .int .u16 R.inc, .string ⟨#[]⟩] 25) = w5 := ⟨_, rfl⟩
    have k5 : EyeAt w5 g I 7 true := by rw [← hw5]; exact old_alloc k4' _
    have hb5 : w5.heap[w.heap.size]? = some (.cells #[.int .u32 0, .int .u16 0, .string ⟨#[]⟩] 25 (0, 0)) := by rw [← hw5]; exact old_alloc hb4 _
    have bw5 : Below w.heap.size w w5 := by rw [← hw5]; exact bw4.alloc bw4.size _
    have HW5 := hide hw5; have K5 := hide k5; have HB5 := hide hb5; have BW5 := hide bw5
    have hx : x = false := by have := HX.out; rw [this]; simp; omega
    subst hx
    clear HCS k4 k4' o4 hb4 bw4 hw5 HB3 BW3 HZ3 K3 k5 hb5 bw5
    go_wp2_with fail
    rw [HW5.out]
    refine (eyeblind_any K5.out).mono ?_
    rintro e w' ⟨rfl, rfl⟩
    have e0 : w5.cell? ⟨w.heap.size, 0, none⟩ = some (.int .u32 0) := blk_cell HB5.out 0
    have e1 : w5.cell? ⟨w.heap.size, 1, none⟩ = some (.int .u16 0) := blk_cell HB5.out 1
    have e2 : w5.cell? ⟨w.heap.size, 2, none⟩ = some (.string ⟨#[]⟩) := blk_cell HB5.out 2
    have g0 : w5.frozen? ⟨w.heap.size, 0, none⟩ = false := blk_frozen HB5.out 0
    have g1 : w5.frozen? ⟨w.heap.size, 1, none⟩ = false := blk_frozen HB5.out 1
    have g2 : w5.frozen? ⟨w.heap.size, 2, none⟩ = false := blk_frozen HB5.out 2
    go_wp2_with fail
    obtain ⟨hb8, b8⟩ := rec_put HB5.out BW5.out (Nat.le_refl _) (.int .u32 0) (.int .u16 0) (.string ⟨#[]⟩)
    generalize ((w5.setCell ⟨w.heap.size, 0, none⟩ (.int .u32 0)).setCell ⟨w.heap.size, 1, none⟩ (.int .u16 0)).setCell ⟨w.heap.size, 2, none⟩ (.string ⟨#[]⟩) = W8 at hb8 b8 ⊢
    have c80 : W8.cell? ⟨w.heap.size, 0, none⟩ = some (.int .u32 0) := blk_cell hb8 0
    have c81 : W8.cell? ⟨w.heap.size, 1, none⟩ = some (.int .u16 0) := blk_cell hb8 1
    have c82 : W8.cell? ⟨w.heap.size, 2, none⟩ = some (.string ⟨#[]⟩) := blk_cell hb8 2
    exact bodyPost_ret (v := .tuple #[.agg #[.int .u32 0, .int .u16 0, .string ⟨#[]⟩], .bool false]) (by simp [results, Tryd.results36, go_sem, c80, c81, c82]) rfl ⟨rfl, b8⟩

theorem parse_any (s : ByteArray) (hs : s.size = 74) (w : World) :
    Calls Tryd.prog 36 #[.string s] w fun e w' => e = .returned (.tuple #[.agg (if wholeP s.data.toList then (recOf s.data.toList).v else Rec.zero.v), .bool (wholeP s.data.toList)]) ∧ Below w.heap.size w w' := by
  cases hy : openOk (s.data.toList.drop 1) with
  | false =>
    have : wholeP s.data.toList = false := by unfold wholeP; rw [hy]; simp
    rw [this]
    exact parse_shut s hs hy w
  | true =>
    by_cases h0 : numB (s.data.toList.take 1) = 165
    · exact parse_long s hs hy h0 rfl w
    · have : wholeP s.data.toList = false := by unfold wholeP; simp [h0]
      rw [this]
      exact parse_mark s hs hy h0 w
end Go.Proofs.YtocbaapnajdcfaaDoor
