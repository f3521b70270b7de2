/- RetainEnds. -/
import Derived.Test.YtocbaapnajdcfaaDoorLa
import Derived.Laws.BitsAllLaws
namespace Go.Proofs.YtocbaapnajdcfaaDoor
open Go.RowKit
set_option linter.unusedVariables false
set_option linter.unusedSimpArgs false
attribute [local go_sem] ofL_toList
attribute [local go_sem] rec_eq10

def endsB (T : Rec) : List UInt8 := 165 :: slotL T ++ List.replicate 74 0
theorem endsB_length {T : Rec} (ok : T.ok) : (endsB T).length = 148 := by simp [endsB, slotL_length ok]
theorem ends_new {T : Rec} (ok : T.ok) : newestP (endsB T) = (0, T, true) := by
  have hl := slotL_length ok
  have e0 : slotK (endsB T) 0 = 165 :: slotL T := by
    simp only [slotK, endsB, Nat.mul_zero, List.drop_zero]
    rw [List.take_append_of_le_length (by simp; omega), List.take_of_length_le (by simp; omega)]
  have e1 : wholeP (slotK (endsB T) 1) = false := wholeP_mark (by
    have : slotK (endsB T) 1 = List.replicate 74 0 := by
      simp only [slotK, endsB, Nat.mul_one]
      rw [List.drop_append_of_le_length (by simp; omega), List.drop_of_length_le (by simp; omega)]
      simp
    rw [this]; decide)
  unfold newestP
  rw [if_neg (by rw [endsB_length ok]; decide), slot0_eq, slot1_eq, e1, e0, wholeP_slot ok, (recOf_slot ok).1]
  simp
theorem ends_holds {T : Rec} (ok : T.ok) : Holds ⟨endsB T, false, false, 0, 0⟩ T true 0 := ⟨by rw [endsB_length ok]; exact Nat.le_refl _, by rw [ends_new ok], rfl⟩

set_option maxRecDepth 100000 in
set_option maxHeartbeats 1000000 in
theorem ends_long (r : Rec) (hs : r.seq < 4294967296) (hi : r.inc < 65536) (data : ByteArray) (hd : 64 < data.size) (top : Int) (w : World) :
    Calls Tryd.prog 3 #[.agg #[.int .u32 r.seq, .int .u16 r.inc, .string data], .int .u8 top] w fun e w' => e = .returned (.bool true) ∧ Below w.heap.size w w' := by
  have hb0 := heap_alloc_new w (.cells #[.int .u32 r.seq, .int .u16 r.inc, .string data] 25)
  have HB0 := hide hb0
  clear hb0
  have hdi : (64 : Int) < (data.size : Int) := by omega
  go_enter Tryd.func3, Tryd.ntmps3
  go_wp2_with fail
  refine (awake07 _).mono ?_
  rintro e w1 ⟨rfl, b1⟩
  have c2 : w1.cell? ⟨w.heap.size, 2, none⟩ = some (.string data) := box_cell b1 2
  have bw1 := box_below b1
  clear b1
  go_wp2_with fail
  go_ret
  exact ⟨rfl, bw1⟩

theorem zeros_convN (n : Nat) (W : World) (b : Nat) (hb : W.heap[b]? = some (.cells (madeCells #[.int .u8 0] n) 5 (0, 0))) :
    (convert 28 9 (.slice (some ⟨b, 0, none⟩) n n)).run Tryd.prog W = .ok (.string (ofL (List.replicate n 0))) W := by
  have := run_convert_bytes_arg (P := Tryd.prog) W 28 5 Tryd.underlying28 Tryd.underlying5 b 0 n n (numsOf (List.replicate n 0)) (by simp [numsOf]) (fun j hj => by
    have hj2 : j < n := hj
    rw [blk_cell hb, Nat.zero_add, madeCells_get _ _ _ hj2]
    simp [numsOf, hj2]) 9 Tryd.underlying9
  rw [this, strOf_nums]
theorem make74 (W : World) : (Instr.makeSlice 28 (.int .i64 74) (.int .i64 74)).run Tryd.prog W = .ok (.slice (some ⟨W.heap.size, 0, none⟩) 74 74) (W.alloc (.cells (madeCells #[.int .u8 0] 74) 5)) :=
  make_u8 28 5 Tryd.underlying28 infoU8' 74 (by decide) W
theorem zeros_conv (W : World) : (convert 28 9 (.slice (some ⟨W.heap.size, 0, none⟩) 74 74)).run Tryd.prog (W.alloc (.cells (madeCells #[.int .u8 0] 74) 5)) = .ok (.string (ofL (List.replicate 74 0))) (W.alloc (.cells (madeCells #[.int .u8 0] 74) 5)) :=
  zeros_convN 74 _ _ (heap_alloc_new W _)

theorem zeros_convD (W : World) : (convert 28 9 (.slice (some ⟨W.heap.size, 0, none⟩) 74 74)).run Tryd.prog (W.alloc (.cells (madeCells #[.int .u8 0] 74) 5)).drew = .ok (.string (ofL (List.replicate 74 0))) (W.alloc (.cells (madeCells #[.int .u8 0] 74) 5)).drew :=
  zeros_convN 74 _ _ (heap_alloc_new W _)

theorem finA {w w7 : World} (h : Below w.drew.heap.size w.drew w7) : Below w.heap.size w w7 := (below_drewN (Below.refl _ _) 1).trans h
theorem finB {w w7 : World} {o : Obj} (h : Below w.drew.heap.size w.drew w7) : Below w.heap.size w (w7.alloc o) := (finA h).alloc (finA h).size _
theorem finC {w w7 : World} {o : Obj} (h : Below (w.alloc o).drew.heap.size (w.alloc o).drew w7) : Below w.heap.size w w7 := box_below (finA h)
theorem finD {w w7 : World} {o : Obj} (h : Below (w.drew.alloc o).heap.size (w.drew.alloc o) w7) : Below w.heap.size w w7 := finA (box_below h)

set_option maxRecDepth 100000 in
set_option maxHeartbeats 8000000 in
theorem ends_short (r : Rec) (ok : r.ok) (top : Int) (w : World) :
    Calls Tryd.prog 3 #[.agg r.v, .int .u8 top] w fun e w' => e = .returned (.bool true) ∧ Below w.heap.size w w' := by
  have s0 := ok.seq
  have s1 := ok.inc
  have s2 := ok.data
  have hds := ofL_size r.data
  obtain ⟨D, hD⟩ : ∃ D, ofL r.data = D := ⟨_, rfl⟩
  rw [hD] at hds
  have hdi : ¬ (64 : Int) < (D.size : Int) := by omega
  obtain ⟨a1, ha1⟩ : ∃ a1, bits .and .u8 top 1 = a1 := ⟨_, rfl⟩
  obtain ⟨a2, ha2⟩ : ∃ a2, bits .and .u8 top 2 = a2 := ⟨_, rfl⟩
  have hrv : r.v = #[.int .u32 r.seq, .int .u16 r.inc, .string D] := by rw [← hD]; rfl
  rw [hrv]
  have HD := hide hD; have OK := hide ok; have HDS := hide hds
  clear hD ok hrv hds
  go_enter Tryd.func3, Tryd.ntmps3
  go_wp2_with fail
  refine (awake07 _).mono ?_
  rintro e w1 ⟨rfl, b1⟩
  have hx1 : w1.heap[w.heap.size]? = some (.cells #[.int .u32 r.seq, .int .u16 r.inc, .string D] 25 (0, 0)) := (b1.block _ (by simp)).trans (heap_alloc_new w _)
  have bw1 := box_below b1
  have c0 : w1.cell? ⟨w.heap.size, 0, none⟩ = some (.int .u32 r.seq) := blk_cell hx1 0
  have c1 : w1.cell? ⟨w.heap.size, 1, none⟩ = some (.int .u16 r.inc) := blk_cell hx1 1
  have c2 : w1.cell? ⟨w.heap.size, 2, none⟩ = some (.string D) := blk_cell hx1 2
  have f0 : w1.frozen? ⟨w.heap.size, 0, none⟩ = false := blk_frozen hx1 0
  have f1 : w1.frozen? ⟨w.heap.size, 1, none⟩ = false := blk_frozen hx1 1
  have HX1 := hide hx1; have BW1 := hide bw1
  clear hx1 bw1 b1
  have h1 : ∃ x : Bool, (a1 == 1) = x := ⟨_, rfl⟩
  have h2 : ∃ x : Bool, (a2 == 2) = x := ⟨_, rfl⟩
  obtain ⟨x1, h1⟩ := h1
  obtain ⟨x2, h2⟩ := h2
  go_upto_if 22 with (fail)
  go_cut [] (fun wc => RecB wc w.heap.size ⟨if x1 = true then 4294967295 else r.seq, r.inc, r.data⟩ ∧ Below w.heap.size w wc)
  case first =>
    cases x1
    · go_wp2
      go_meet
      case rel => exact ⟨by have := HX1.out; unfold RecB; rw [HD.out]; exact this, BW1.out⟩
    · go_wp2
      go_meet
      case rel => exact ⟨by have := set_heap HX1.out 0 (.int .u32 4294967295); unfold RecB; rw [HD.out]; exact this, BW1.out.setCell (p := ⟨w.heap.size, 0, none⟩) (Nat.le_refl _) _⟩
  case rest =>
    obtain ⟨hx2, bw2⟩ := hcut
    clear c1 f1
    obtain ⟨T1, hT1⟩ : ∃ T1 : Rec, (⟨if x1 = true then 4294967295 else r.seq, r.inc, r.data⟩ : Rec) = T1 := ⟨_, rfl⟩
    have hT1ok : T1.ok := by rw [← hT1]; exact ⟨by show (if x1 = true then 4294967295 else r.seq) < _; split <;> omega, s1, s2⟩
    have hT1d : T1.data = r.data := by rw [← hT1]
    rw [hT1] at hx2
    have c1 : wc.cell? ⟨w.heap.size, 1, none⟩ = some (.int .u16 T1.inc) := blk_cell hx2 1
    have f1 : wc.frozen? ⟨w.heap.size, 1, none⟩ = false := blk_frozen hx2 1
    have HX2 := hide hx2; have BW2 := hide bw2; have HT1D := hide hT1d; have HT1OK := hide hT1ok
    clear hx2 bw2 hT1 hT1ok hT1d HX1 BW1 c0 c2 f0 h1 ha1
    go_upto_if 26 with (fail)
    go_cut [] (fun wd => RecB wd w.heap.size ⟨T1.seq, if x2 = true then 65535 else T1.inc, T1.data⟩ ∧ Below w.heap.size w wd)
    case first =>
      cases x2
      · go_wp2
        go_meet
        case rel => exact ⟨HX2.out, BW2.out⟩
      · go_wp2
        go_meet
        case rel => exact ⟨set_heap HX2.out 1 (.int .u16 65535), BW2.out.setCell (p := ⟨w.heap.size, 1, none⟩) (Nat.le_refl _) _⟩
    case rest =>
      obtain ⟨hx3, bw3⟩ := hcut
      obtain ⟨T, hT⟩ : ∃ T : Rec, (⟨T1.seq, if x2 = true then 65535 else T1.inc, T1.data⟩ : Rec) = T := ⟨_, rfl⟩
      have hTok : T.ok := by
        have h := HT1OK.out
        have hi := h.inc
        rw [← hT]
        exact ⟨h.seq, by show (if x2 = true then 65535 else T1.inc) < _; split <;> omega, h.data⟩
      have hTd : ofL T.data = D := by rw [← hT, ← HD.out, ← HT1D.out]
      rw [hT] at hx3
      clear hT HX2 BW2 c1 f1 h2 ha2
      go_upto_region 9 with (fail)
      have HTD := hide hTd; have HXW := hide hx3; have BWW := hide bw3; have HTOK := hide hTok
      obtain ⟨S, hS⟩ : ∃ S, ofL (endsB T) = S := ⟨_, rfl⟩
      have hSs : S.size = 148 := by rw [← hS, ofL_size, endsB_length hTok]
      have HS := hide hS; have HSS := hide hSs
      clear hS hSs
      go_cut [5] from 28 to 33 (fun v wd => v = .string S ∧ RecB wd w.heap.size T ∧ Below w.heap.size w wd)
      case first =>
        have c0 : wc.cell? ⟨w.heap.size, 0, none⟩ = some (.int .u32 T.seq) := blk_cell hx3 0
        have c1 : wc.cell? ⟨w.heap.size, 1, none⟩ = some (.int .u16 T.inc) := blk_cell hx3 1
        have c2 : wc.cell? ⟨w.heap.size, 2, none⟩ = some (.string D) := by rw [← hTd]; exact blk_cell hx3 2
        have hlW : w.heap.size < wc.heap.size := recB_lt hx3
        have HSL := hide (fun X : World => rslot_any T hTok X)
        have hsl := slotL_length hTok
        obtain ⟨L, hL⟩ : ∃ L, slotL T = L := ⟨_, rfl⟩
        have hv : T.v = #[.int .u32 T.seq, .int .u16 T.inc, .string D] := by rw [← hTd]; rfl
        rw [hv, hL] at HSL
        rw [hL] at hsl
        have z1 : (ofL L).size ≤ 73 := by rw [ofL_size]; omega
        have z2 : (ofL (List.replicate 74 0)).size ≤ 74 := by rw [ofL_size, List.length_replicate]; exact Nat.le_refl _
        obtain ⟨Z, hZ⟩ : ∃ Z, ofL (List.replicate 74 0) = Z := ⟨_, rfl⟩
        rw [hZ] at z2
        have hmk := make74
        have hcv := zeros_conv
        have hcb := zeros_convN 74
        have hcd := zeros_convD
        obtain ⟨ZC, hZC⟩ : ∃ ZC, madeCells #[Value.int .u8 0] 74 = ZC := ⟨_, rfl⟩
        rw [hZC] at hmk hcv hcb hcd
        rw [hZ] at hcv hcb hcd
        have HCB := hide hcb
        have hcat : (⟨#[165]⟩ : ByteArray) ++ ofL L ++ Z = S := by
          rw [← HS.out, ← hZ]
          apply ofL_eq
          rw [data_append, data_append, ofL_data, ofL_data, ← hL]
          simp [endsB]
        have q1 : (9223372036854775807 < 1 + (ofL L).size) = False := eq_false (by omega)
        have q2 : (9223372036854775807 < 1 + (ofL L).size + Z.size) = False := eq_false (by omega)
        clear hZC hcb hTd hTok hL hv hsl hZ z1 z2
        have HX := hide hx3; have HB := hide bw3
        clear hx3 bw3
        go_region_with ((go_at_call 8; (with_reducible refine (HSL.out _).mono ?_); rintro e7 w7 ⟨rfl, hb7⟩; try (have hc7 : (convert 28 9 (.slice (some ⟨wc.heap.size, 0, none⟩) 74 74)).run Tryd.prog w7 = .ok (.string Z) w7 := HCB.out w7 wc.heap.size ((hb7.block wc.heap.size (by simp)).trans (heap_alloc_new wc _)))))
        all_goals
          go_wp2_with fail
          go_meet
          case rel =>
            refine ⟨rfl, recB_below HX.out (B := wc.heap.size) ?_ (Nat.le_refl _), HB.out.trans ((?_ : Below wc.heap.size wc _).mono (Nat.le_of_lt hlW))⟩ <;> first | exact finA hb7 | exact finB hb7 | exact finC hb7 | exact finD hb7
      case rest =>
        obtain ⟨rfl, hx4, bw4⟩ := hcut
        have hends := ends_holds hTok
        have hEl := endsB_length hTok
        have hTk := HTOK.out
        have HX4 := hide hx4; have BW4 := hide bw4
        have hlt4 := recB_lt hx4
        have HE := hide hends; have HEL := hide hEl
        have hSd : S.data.toList = endsB T := by rw [← HS.out, ofL_data]
        have hof : ∀ W : World, Calls Tryd.prog 9 #[.string S] W (Made W ⟨endsB T, false, false, 0, 0⟩) := fun W => by
          have := of_any W S (by rw [HSS.out]; decide)
          rw [hSd] at this
          exact this
        have HOF := hide hof; have HSD := hide hSd
        have HCC := hide (fun (W : World) (g h cap : Nat) (k : StAt W g h cap ⟨endsB T, false, false, 0, 0⟩) => Commit_any k 7 (by decide) [113] (by decide) (show (0 : Int) + 300 ≤ 9223372036854775807 by decide))
        have HBB := hide (fun (W : World) (g h cap : Nat) (k : StAt W g h cap ⟨endsB T, false, false, 0, 0⟩) => Boot_any k (show (0 : Int) + 300 ≤ 9223372036854775807 by decide))
        have o7 : (⟨0, 7, [113]⟩ : Rec).ok := ⟨show 0 < 4294967296 by decide, show 7 < 65536 by decide, show 1 ≤ 64 by decide⟩
        have HO7 := hide o7
        clear hof hSd hends hEl hx4 bw4 hx3 bw3 hTok hTd o7 HXW BWW
        have hq : ofL [113] = ⟨#[113]⟩ := rfl
        simp only [hq] at HCC
        clear hq
        go_wp2_with fail
        refine (HOF.out _).mono ?_
        rintro e w1 ⟨g, h, cap, rfl, k1, hg, hh, b1⟩
        have hx1 := recB_below HX4.out b1 (Nat.le_refl _)
        have bw1 := BW4.out.trans (b1.mono BW4.out.size)
        have hgw : w.heap.size < g := by omega
        have hhw : w.heap.size < h := by omega
        have HX1 := hide hx1; have BW1 := hide bw1
        by_cases hmax : T.seq = 4294967295
        · have hC : CommitP ⟨endsB T, false, false, 0, 0⟩ 7 [113] = (13, ⟨endsB T, false, false, 0, 0⟩) := by
            rw [Commit_eq (by decide), commitP_max (by rw [HE.out.seq]; exact hmax)]
          have hB : BootP ⟨endsB T, false, false, 0, 0⟩ = ((Rec.zero, 13), ⟨endsB T, false, false, 0, 0⟩) := by
            by_cases hi : T.inc = 65535
            · exact Boot_max HE.out hi
            · rw [Boot_eq HE.out hi, commitP_max (by rw [HE.out.seq]; exact hmax)]
          have H1 := HCC.out w1 g h cap k1
          rw [hC] at H1
          have HCM := hide H1; have HBE := hide hB
          have hm1 : ((T.seq : Int) == 4294967295) = true := by simp; omega
          clear H1 hC hB k1 b1 hx1 bw1 hmax
          go_wp2_with fail
          refine HCM.out.mono ?_
          rintro e w2 ⟨rfl, k2, o2⟩
          have hx2 := (o2.block w.heap.size (recB_lt HX1.out) (by omega) (by omega)).trans HX1.out
          have bw2 := o2.below BW1.out (by omega) (by omega) BW1.out.size
          have c0 : w2.cell? ⟨w.heap.size, 0, none⟩ = some (.int .u32 T.seq) := blk_cell hx2 0
          have HB2 := hide (HBB.out w2 g h cap k2)
          rw [HBE.out] at HB2
          have HX2 := hide hx2; have BW2 := hide bw2
          clear HCM hx2 bw2 k2 o2 HX1 BW1
          go_wp2_with fail
          refine HB2.out.mono ?_
          rintro e w3 ⟨rfl, k3, o3⟩
          simp only [zero_v]
          have hx3 := (o3.block w.heap.size (recB_lt HX2.out) (by omega) (by omega)).trans HX2.out
          have bw3 := o3.below BW2.out (by omega) (by omega) BW2.out.size
          have HL := hide (load_any (k3.below ((Below.refl _ _).alloc (Nat.le_refl _) (.cells #[.int .u32 0, .int .u16 0, .string ⟨#[]⟩] 25))))
          rw [ends_new HTOK.out] at HL
          have hx3' := old_alloc hx3 (.cells #[.int .u32 0, .int .u16 0, .string ⟨#[]⟩] 25)
          have bw3' := bw3.alloc bw3.size (.cells #[.int .u32 0, .int .u16 0, .string ⟨#[]⟩] 25)
          have K3 := hide (k3.below ((Below.refl _ _).alloc (Nat.le_refl _) (.cells #[.int .u32 0, .int .u16 0, .string ⟨#[]⟩] 25)))
          have HX3 := hide hx3'; have BW3 := hide bw3'
          clear hx3 bw3 hx3' bw3' k3 o3 HB2 HX2 BW2 c0
          go_wp2_with fail
          refine HL.out.mono ?_
          rintro e w4 ⟨rfl, b4⟩
          have hx4 := (b4.block w.heap.size (Array.getElem?_eq_some_iff.1 HX3.out).1).trans HX3.out
          have bw4 := BW3.out.trans (b4.mono BW3.out.size)
          have k4 := K3.out.below b4
          have hTd : ofL T.data = D := HTD.out
          unfold Rec.v
          simp only [hTd]
          obtain ⟨q, hq⟩ : ∃ q, w4.heap.size = q := ⟨_, rfl⟩
          obtain ⟨w5, hw5⟩ : ∃ w5, w4.alloc (.cells #[.int .u32 T.seq, .int .u16 T.inc, .string D] 25) = w5 := ⟨_, rfl⟩
          have hx5 : w5.heap[w.heap.size]? = some (.cells #[.int .u32 T.seq, .int .u16 T.inc, .string (ofL T.data)] 25 (0, 0)) := by rw [← hw5]; exact old_alloc hx4 _
          have hq5 : w5.heap[q]? = some (.cells #[.int .u32 T.seq, .int .u16 T.inc, .string D] 25 (0, 0)) := by rw [← hw5, ← hq]; exact heap_alloc_new w4 _
          have k5 : StAt w5 g h cap ⟨endsB T, false, false, 0, 0⟩ := by rw [← hw5]; exact k4.below ((Below.refl _ _).alloc (Nat.le_refl _) _)
          have BW5 := hide (show Below w.heap.size w w5 by rw [← hw5]; exact bw4.alloc bw4.size _)
          have HW5 := hide hw5; have HQ := hide hq
          rw [hTd] at hx5
          have HBY := hide (bytes_any k5)
          rw [HS.out] at HBY
          clear hw5 hq b4 hx4 bw4 k4 HL K3 HX3 BW3 k5
          go_upto_region 15 with (fail)
          rw [HQ.out, HW5.out]
          have c0 : w5.cell? ⟨w.heap.size, 0, none⟩ = some (.int .u32 T.seq) := blk_cell hx5 0
          have c1 : w5.cell? ⟨w.heap.size, 1, none⟩ = some (.int .u16 T.inc) := blk_cell hx5 1
          have c2 : w5.cell? ⟨w.heap.size, 2, none⟩ = some (.string D) := blk_cell hx5 2
          have d0 : w5.cell? ⟨q, 0, none⟩ = some (.int .u32 T.seq) := blk_cell hq5 0
          have d1 : w5.cell? ⟨q, 1, none⟩ = some (.int .u16 T.inc) := blk_cell hq5 1
          have d2 : w5.cell? ⟨q, 2, none⟩ = some (.string D) := blk_cell hq5 2
          have hsame := fun W : World => eqRec 9998 W T.seq T.seq T.inc T.inc D D
          clear hx5 hq5 hm1
          go_wp2_with fail
          refine HBY.out.mono ?_
          rintro e w' ⟨rfl, rfl⟩
          go_wp2_with fail
          go_ret
          exact ⟨by simp, BW5.out⟩
        · obtain ⟨s1, e1, h1s, d1, a1, _, _⟩ := commit_un (r := ⟨0, 7, [113]⟩) HE.out rfl rfl hmax HO7.out
          have hC : CommitP ⟨endsB T, false, false, 0, 0⟩ 7 [113] = (0, s1) := by rw [Commit_eq (by decide), e1]
          have H1 := HCC.out w1 g h cap k1
          rw [hC] at H1
          have HCM := hide H1
          have hm1 : ((T.seq : Int) == 4294967295) = false := by simp; omega
          have HMAX := hide hmax
          clear H1 hC k1 b1 hx1 bw1 hmax e1 h1s d1 a1
          go_wp2_with fail
          refine HCM.out.mono ?_
          rintro e w2 ⟨rfl, k2, o2⟩
          have hx2 := (o2.block w.heap.size (recB_lt HX1.out) (by omega) (by omega)).trans HX1.out
          have bw2 := o2.below BW1.out (by omega) (by omega) BW1.out.size
          have c0 : w2.cell? ⟨w.heap.size, 0, none⟩ = some (.int .u32 T.seq) := blk_cell hx2 0
          have hlt2 := recB_lt hx2
          have HX2 := hide hx2; have BW2 := hide bw2
          clear HCM hx2 bw2 k2 o2 HX1 BW1
          go_wp2_with fail
          refine (HOF.out _).mono ?_
          rintro e w3 ⟨g2, h2, cap2, rfl, k3, hg2, hh2, b3⟩
          have hx3 := recB_below HX2.out b3 (Nat.le_refl _)
          have bw3 := BW2.out.trans (b3.mono BW2.out.size)
          have hgw2 : w.heap.size < g2 := by omega
          have hhw2 : w.heap.size < h2 := by omega
          have HB2 := hide (HBB.out w3 g2 h2 cap2 k3)
          have HX3 := hide hx3; have BW3 := hide bw3
          have hlt3 := recB_lt hx3
          clear k3 b3 hx3 bw3 HX2 BW2 c0
          have hTd : ofL T.data = D := HTD.out
          by_cases hi : T.inc = 65535
          · have hB : BootP ⟨endsB T, false, false, 0, 0⟩ = ((Rec.zero, 13), ⟨endsB T, false, false, 0, 0⟩) := Boot_max HE.out hi
            rw [hB] at HB2
            have hm2 : ((T.inc : Int) == 65535) = true := by simp; omega
            clear hB hi
            go_wp2_with fail
            refine HB2.out.mono ?_
            rintro e w4 ⟨rfl, k4, o4⟩
            simp only [zero_v]
            have hx4 := (o4.block w.heap.size hlt3 (by omega) (by omega)).trans HX3.out
            have bw4 := o4.below BW3.out (by omega) (by omega) BW3.out.size
            obtain ⟨q, hq⟩ : ∃ q, w4.heap.size = q := ⟨_, rfl⟩
            obtain ⟨w5, hw5⟩ : ∃ w5, w4.alloc (.cells #[.int .u32 0, .int .u16 0, .string ⟨#[]⟩] 25) = w5 := ⟨_, rfl⟩
            have hx5 : w5.heap[w.heap.size]? = some (.cells #[.int .u32 T.seq, .int .u16 T.inc, .string (ofL T.data)] 25 (0, 0)) := by rw [← hw5]; exact old_alloc hx4 _
            have hq5 : w5.heap[q]? = some (.cells #[.int .u32 0, .int .u16 0, .string ⟨#[]⟩] 25 (0, 0)) := by rw [← hw5, ← hq]; exact heap_alloc_new w4 _
            have k5 : StAt w5 g2 h2 cap2 ⟨endsB T, false, false, 0, 0⟩ := by rw [← hw5]; exact k4.below ((Below.refl _ _).alloc (Nat.le_refl _) _)
            have BW5 := hide (show Below w.heap.size w w5 by rw [← hw5]; exact bw4.alloc bw4.size _)
            have HW5 := hide hw5; have HQ := hide hq
            have HBY := hide (bytes_any k5)
            rw [HS.out] at HBY
            clear hw5 hq hx4 bw4 k4 o4 HB2 HX3 BW3 k5
            go_upto_region 20 with (fail)
            rw [HQ.out, HW5.out]
            have c1 : w5.cell? ⟨w.heap.size, 1, none⟩ = some (.int .u16 T.inc) := blk_cell hx5 1
            have d0 : w5.cell? ⟨q, 0, none⟩ = some (.int .u32 0) := blk_cell hq5 0
            have d1 : w5.cell? ⟨q, 1, none⟩ = some (.int .u16 0) := blk_cell hq5 1
            have d2 : w5.cell? ⟨q, 2, none⟩ = some (.string ⟨#[]⟩) := blk_cell hq5 2
            have hsame := fun W : World => eqRec 9998 W 0 0 0 0 ⟨#[]⟩ ⟨#[]⟩
            clear hx5 hq5 hm1
            go_wp2_with fail
            refine HBY.out.mono ?_
            rintro e w' ⟨rfl, rfl⟩
            go_wp2_with fail
            go_ret
            exact ⟨by simp, BW5.out⟩
          · obtain ⟨s2, e2, _, _, _, _, _⟩ := commit_un (r := { T with inc := T.inc + 1 }) HE.out rfl rfl HMAX.out ⟨HTOK.out.seq, by have := HTOK.out.inc; show T.inc + 1 < _; omega, HTOK.out.data⟩
            have hB : BootP ⟨endsB T, false, false, 0, 0⟩ = ((⟨T.seq + 1, T.inc + 1, T.data⟩, 0), s2) := by rw [Boot_eq HE.out hi, e2]
            rw [hB] at HB2
            have hm2 : ((T.inc : Int) == 65535) = false := by simp; omega
            obtain ⟨m0, hm0⟩ : ∃ m0, T.seq + 1 = m0 := ⟨_, rfl⟩
            obtain ⟨m1, hm1'⟩ : ∃ m1, T.inc + 1 = m1 := ⟨_, rfl⟩
            have wi0 : IntKind.u32.wrap ((T.seq : Int) + 1) = (m0 : Int) := by have := HTOK.out.seq; have := HMAX.out; rw [IntKind.wrap_u32']; omega
            have wi1 : IntKind.u16.wrap ((T.inc : Int) + 1) = (m1 : Int) := by have := HTOK.out.inc; rw [IntKind.wrap_u16]; omega
            unfold Rec.v at HB2
            simp only [hTd, hm0, hm1'] at HB2
            clear hB hi e2 hm0 hm1'
            go_wp2_with fail
            refine HB2.out.mono ?_
            rintro e w4 ⟨rfl, k4, o4⟩
            have hx4 := (o4.block w.heap.size hlt3 (by omega) (by omega)).trans HX3.out
            have bw4 := o4.below BW3.out (by omega) (by omega) BW3.out.size
            obtain ⟨q, hq⟩ : ∃ q, w4.heap.size = q := ⟨_, rfl⟩
            obtain ⟨w5, hw5⟩ : ∃ w5, w4.alloc (.cells #[.int .u32 m0, .int .u16 m1, .string D] 25) = w5 := ⟨_, rfl⟩
            have hx5 : w5.heap[w.heap.size]? = some (.cells #[.int .u32 T.seq, .int .u16 T.inc, .string (ofL T.data)] 25 (0, 0)) := by rw [← hw5]; exact old_alloc hx4 _
            have hq5 : w5.heap[q]? = some (.cells #[.int .u32 m0, .int .u16 m1, .string D] 25 (0, 0)) := by rw [← hw5, ← hq]; exact heap_alloc_new w4 _
            have BW5 := hide (show Below w.heap.size w w5 by rw [← hw5]; exact bw4.alloc bw4.size _)
            have HW5 := hide hw5; have HQ := hide hq
            rw [hTd] at hx5
            clear hw5 hq hx4 bw4 k4 o4 HB2 HX3 BW3
            go_upto_region 20 with (fail)
            rw [HQ.out, HW5.out]
            have c0 : w5.cell? ⟨w.heap.size, 0, none⟩ = some (.int .u32 T.seq) := blk_cell hx5 0
            have c1 : w5.cell? ⟨w.heap.size, 1, none⟩ = some (.int .u16 T.inc) := blk_cell hx5 1
            have c2 : w5.cell? ⟨w.heap.size, 2, none⟩ = some (.string D) := blk_cell hx5 2
            have d0 : w5.cell? ⟨q, 0, none⟩ = some (.int .u32 m0) := blk_cell hq5 0
            have d1 : w5.cell? ⟨q, 1, none⟩ = some (.int .u16 m1) := blk_cell hq5 1
            have d2 : w5.cell? ⟨q, 2, none⟩ = some (.string D) := blk_cell hq5 2
            clear hx5 hq5 hm1
            go_wp2
            go_ret
            exact ⟨by simp, BW5.out⟩
end Go.Proofs.YtocbaapnajdcfaaDoor
