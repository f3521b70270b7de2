/- The statement's 'one', walked. -/
import Derived.Test.YtocbaapnajdcfaaDoorKl
namespace Go.Proofs.YtocbaapnajdcfaaDoor
open Go.RowKit
set_option linter.unusedVariables false
set_option linter.unusedSimpArgs false
attribute [local go_sem] ofL_toList
attribute [local go_sem] rec_eq10

def OneRes (w : World) (g h cap B0 : Nat) (s : St) (e : Ending) (w' : World) : Prop :=
  e = .returned (.bool true) ∧ Below B0 w w' ∧ ∃ s', StAt w' g h cap s' ∧ s'.wrote ≤ s.wrote + 75

set_option maxRecDepth 100000 in
set_option maxHeartbeats 2000000 in
theorem one_arm {w : World} {g h cap : Nat} {s : St} (k : StAt w g h cap s) (B0 : Nat) (hg : B0 ≤ g) (hh : B0 ≤ h) (what : Nat) (h8 : what ≤ 255) (hwh : what % 3 = 2) (inc : Nat) (D : ByteArray) (n : Nat) (hn : n ≤ 255) :
    Calls Tryd.prog 20 #[.pointer (some ⟨g, 0, none⟩), .agg #[.int .u8 what, .int .u16 inc, .string D, .int .u8 n]] w (OneRes w g h cap B0 s) := by
  have hlt := k.lt
  obtain ⟨w1, hw1⟩ : ∃ w1, w.alloc (.cells #[.int .u8 what, .int .u16 inc, .string D, .int .u8 n] 47) = w1 := ⟨_, rfl⟩
  have hx1 : w1.heap[w.heap.size]? = some (.cells #[.int .u8 what, .int .u16 inc, .string D, .int .u8 n] 47 (0, 0)) := by rw [← hw1]; exact heap_alloc_new w _
  have hs1 : w1.heap.size = w.heap.size + 1 := by rw [← hw1]; simp
  have b1 : Below w.heap.size w w1 := by rw [← hw1]; exact (Below.refl _ _).alloc (Nat.le_refl _) _
  have k1 := k.below b1
  have c0 : w1.cell? ⟨w.heap.size, 0, none⟩ = some (.int .u8 what) := blk_cell hx1 0
  have c3 : w1.cell? ⟨w.heap.size, 3, none⟩ = some (.int .u8 n) := blk_cell hx1 3
  have HB1 := hide (bytes_any k1)
  have hgl : g < w.heap.size := (Array.getElem?_eq_some_iff.1 k.blk).1
  have hm : (what : Int) % 3 = 2 := by omega
  have K1 := hide k1; have HW1 := hide hw1; have B1 := hide b1; have HS1 := hide hs1; have K := hide k
  clear k k1 hw1 b1 hs1 hx1 hwh
  go_enter Tryd.func20, Tryd.ntmps20
  go_upto_region 1 with (fail)
  rw [HW1.out]
  go_wp2_with fail
  refine HB1.out.mono ?_
  rintro e w' ⟨rfl, rfl⟩
  go_wp2_with fail
  refine (arm_any K1.out n (by omega)).mono ?_
  rintro e w2 ⟨rfl, k2, o2⟩
  have hb0 : B0 ≤ w1.heap.size := by rw [HS1.out]; omega
  have B2 := hide (o2.below (B1.out.mono (show B0 ≤ w.heap.size by omega)) hg hh hb0)
  have HB2 := hide (bytes_any k2)
  have K2 := hide k2
  clear k2 o2
  go_wp2_with fail
  refine HB2.out.mono ?_
  rintro e w' ⟨rfl, rfl⟩
  go_wp2
  go_ret
  exact ⟨by simp, B2.out, _, K2.out, by show s.wrote ≤ s.wrote + 75; omega⟩

theorem Only.recB {g h q : Nat} {w w' : World} {R : Rec} (r : RecB w q R) (o : Only g h w w') (h1 : q ≠ g) (h2 : q ≠ h) : RecB w' q R := (o.block q (recB_lt r) h1 h2).trans r

set_option maxRecDepth 100000 in
set_option maxHeartbeats 8000000 in
theorem one_act {w : World} {g h cap : Nat} {s : St} (k : StAt w g h cap s) (hd : s.dark = false) (hw : s.wrote ≤ 3000) (B0 : Nat) (hg : B0 ≤ g) (hh : B0 ≤ h) (what : Nat) (h8 : what ≤ 255) (hwh : what % 3 ≠ 2) (inc : Nat) (hinc : inc < 65536) (data : List UInt8) (hdl : data.length ≤ 100) (n : Nat) (hn : n ≤ 255) :
    Calls Tryd.prog 20 #[.pointer (some ⟨g, 0, none⟩), .agg #[.int .u8 what, .int .u16 inc, .string (ofL data), .int .u8 n]] w (OneRes w g h cap B0 s) := by
  obtain ⟨boot, hboot⟩ : ∃ b : Bool, ((what : Int) % 3 == 1) = b := ⟨_, rfl⟩
  obtain ⟨got, er, s', hact, hlen, hwr, hcases⟩ := act_law hd k.left0 boot inc hinc data
  have hlt := k.lt
  have hz := ofL_size data
  have hrn := hide (fun (S D : ByteArray) h1 h2 W => rnext_any S boot inc D h1 hinc h2 W)
  obtain ⟨D, hD⟩ : ∃ D, ofL data = D := ⟨_, rfl⟩
  have hDd : D.data.toList = data := by rw [← hD, ofL_data]
  rw [hD] at hz ⊢
  obtain ⟨w1, hw1⟩ : ∃ w1, w.alloc (.cells #[.int .u8 what, .int .u16 inc, .string D, .int .u8 n] 47) = w1 := ⟨_, rfl⟩
  have hx1 : w1.heap[w.heap.size]? = some (.cells #[.int .u8 what, .int .u16 inc, .string D, .int .u8 n] 47 (0, 0)) := by rw [← hw1]; exact heap_alloc_new w _
  have hs1 : w1.heap.size = w.heap.size + 1 := by rw [← hw1]; simp
  have hgl : g < w.heap.size := (Array.getElem?_eq_some_iff.1 k.blk).1
  have hb : B0 ≤ w.heap.size := by omega
  have b1 : Below B0 w w1 := by rw [← hw1]; exact (Below.refl _ _).alloc hb _
  have k1 := k.below (show Below w.heap.size w w1 by rw [← hw1]; exact (Below.refl _ _).alloc (Nat.le_refl _) _)
  obtain ⟨SB, hSB⟩ : ∃ SB, ofL s.b = SB := ⟨_, rfl⟩
  have hSBd : SB.data.toList = s.b := by rw [← hSB, ofL_data]
  have hSBs : SB.size ≤ 1000 := by rw [← hSB, ofL_size]; exact k.small
  have HB1 := hide (bytes_any k1)
  have HA1 := hide (armed_any k1)
  have HP1 := hide (power_any k1)
  obtain ⟨ar, har⟩ : ∃ ar, s.armed = ar := ⟨_, rfl⟩
  obtain ⟨lf, hlf⟩ : ∃ lf, leftN s = lf := ⟨_, rfl⟩
  have hlf2 : (if ar = true then s.left else -1) = lf := by rw [← hlf, ← har]; rfl
  rw [har] at HA1
  have HLF := hide hlf2; have HLN := hide hlf
  clear hlf hlf2 har
  rw [hSB] at HB1
  rw [hd] at HP1
  have hm : ((what : Int) % 3 == 2) = false := by simp; omega
  have HNX := hide (hrn.out SB D hSBs (by omega))
  rw [hSBd, hDd] at HNX
  obtain ⟨w2, hw2⟩ : ∃ w2, w1.alloc (.cells #[.int .u32 0, .int .u16 0, .string ⟨#[]⟩] 25) = w2 := ⟨_, rfl⟩
  have k2 := k1.below (show Below w1.heap.size w1 w2 by rw [← hw2]; exact (Below.refl _ _).alloc (Nat.le_refl _) _)
  have b2 : Below B0 w w2 := by rw [← hw2]; exact b1.alloc (by omega) _
  have hr2 : RecB w2 (w.heap.size + 1) Rec.zero := by rw [← hw2, ← hs1]; exact heap_alloc_new w1 _
  have hx2 := show w2.heap[w.heap.size]? = some (.cells #[.int .u8 what, .int .u16 inc, .string D, .int .u8 n] 47 (0, 0)) by rw [← hw2]; exact old_alloc hx1 _
  have HBT := hide (fun _ : boot = true => Boot_any k2 (by omega))
  have HCM := hide (fun _ : boot = false => Commit_any k2 inc hinc data (by omega) (by omega))
  have HACT := hide hact; have HLEN := hide hlen; have HWR := hide hwr; have HCS := hide hcases
  have c0 : w1.cell? ⟨w.heap.size, 0, none⟩ = some (.int .u8 what) := blk_cell hx1 0
  have K1 := hide k1; have HW1 := hide hw1; have B1 := hide b1; have HS1 := hide hs1; have K := hide k; have HX1 := hide hx1; have HX2 := hide hx2
  have HSB := hide hSB; have HSBD := hide hSBd; have HSBS := hide hSBs; have HD := hide hD; have HDD := hide hDd; have K2 := hide k2; have B2 := hide b2; have HR2 := hide hr2; have HW2 := hide hw2; have HDK := hide hd
  clear k k1 hw1 b1 hs1 hx1 hwh hx2 hSB hSBd hSBs hD hDd k2 b2 hr2 hw2 hact hlen hwr hcases hrn hd
  go_enter Tryd.func20, Tryd.ntmps20
  go_upto_region 1 with (fail)
  rw [HW1.out]
  go_wp2_with fail
  refine HB1.out.mono ?_
  rintro e w' ⟨rfl, rfl⟩
  go_wp2_with fail
  refine HA1.out.mono ?_
  rintro e w' ⟨rfl, rfl⟩
  go_upto_if 41 with (fail)
  go_cut [7] (fun v7 wc => v7 = .int .i64 lf ∧ wc = w1)
  case first =>
    have hl := HLF.out
    cases ar
    · simp at hl
      subst hl
      go_wp2
      go_meet
      case rel => exact ⟨rfl, rfl⟩
    · simp at hl
      subst hl
      go_wp2
      go_meet
      case rel => exact ⟨rfl, rfl⟩
  case rest =>
    obtain ⟨rfl, rfl⟩ := hcut
    clear c0
    go_wp2_with fail
    refine HP1.out.mono ?_
    rintro e w' ⟨rfl, rfl⟩
    go_upto_if 45 with (fail)
    rw [HW2.out, HS1.out]
    go_cut [11] (fun v11 wd => v11 = .int .i64 er ∧ StAt wd g h cap s' ∧ RecB wd (w.heap.size + 1) got ∧ wd.heap[w.heap.size]? = some (.cells #[.int .u8 what, .int .u16 inc, .string D, .int .u8 n] 47 (0, 0)) ∧ Below B0 w wd)
    case first =>
      have hr2 := HR2.out
      have m0 : w2.frozen? ⟨w.heap.size + 1, 0, none⟩ = false := blk_frozen hr2 0
      have m1 : w2.frozen? ⟨w.heap.size + 1, 1, none⟩ = false := blk_frozen hr2 1
      have m2 : w2.frozen? ⟨w.heap.size + 1, 2, none⟩ = false := blk_frozen hr2 2
      have c1 : w2.cell? ⟨w.heap.size, 1, none⟩ = some (.int .u16 inc) := blk_cell HX2.out 1
      have c2 : w2.cell? ⟨w.heap.size, 2, none⟩ = some (.string D) := blk_cell HX2.out 2
      have hb2 : B0 ≤ w2.heap.size := Nat.le_trans hb B2.out.size
      clear hr2
      cases boot with
      | true =>
        have hbt := HACT.out
        have hBT := HBT.out rfl
        unfold actP at hbt
        rw [if_pos rfl] at hbt
        rw [hbt] at hBT
        unfold Rec.v at hBT
        simp only at hBT
        have HBT2 := hide hBT
        clear hbt hBT HBT HCM c1 c2
        go_wp2_with fail
        refine HBT2.out.mono ?_
        rintro e w3 ⟨rfl, k3, o3⟩
        have hr3 := Only.recB HR2.out o3 (by omega) (by omega)
        have hx3 := (o3.block w.heap.size (Array.getElem?_eq_some_iff.1 HX2.out).1 (by omega) (by omega)).trans HX2.out
        have b3 := o3.below B2.out hg hh hb2
        have n0 : w3.frozen? ⟨w.heap.size + 1, 0, none⟩ = false := blk_frozen hr3 0
        have n1 : w3.frozen? ⟨w.heap.size + 1, 1, none⟩ = false := blk_frozen hr3 1
        have n2 : w3.frozen? ⟨w.heap.size + 1, 2, none⟩ = false := blk_frozen hr3 2
        have d0 : w3.cell? ⟨w.heap.size + 1, 0, none⟩ = some (.int .u32 (Rec.zero.seq : Nat)) := blk_cell hr3 0
        have d1 : w3.cell? ⟨w.heap.size + 1, 1, none⟩ = some (.int .u16 (Rec.zero.inc : Nat)) := blk_cell hr3 1
        have d2 : w3.cell? ⟨w.heap.size + 1, 2, none⟩ = some (.string (ofL Rec.zero.data)) := blk_cell hr3 2
        have K3 := hide k3; have HR3 := hide hr3; have HX3 := hide hx3; have B3 := hide b3
        clear k3 hr3 hx3 b3 o3 m0 m1 m2
        go_wp2
        obtain ⟨hr4, b4⟩ := recB_put HR3.out (Below.refl (w.heap.size + 1) w3) (Nat.le_refl _) got
        go_meet
        case rel => exact ⟨rfl, stAt_low K3.out b4 (by omega) (by omega), hr4, (b4.block w.heap.size (by omega)).trans HX3.out, B3.out.trans (b4.mono (by omega))⟩
      | false =>
        have hct := HACT.out
        have hCM := HCM.out rfl
        unfold actP at hct
        rw [if_neg (by simp)] at hct
        have hgot : got = Rec.zero := by injection hct with h1 h2; injection h1 with h3 h4; exact h3.symm
        have hcm : CommitP s inc data = (er, s') := by
          injection hct with h1 h2
          injection h1 with h3 h4
          rw [← h4, ← h2]
        rw [hcm, HD.out] at hCM
        simp only at hCM
        have HCM2 := hide hCM
        subst hgot
        clear hct hCM HBT HCM hcm
        go_wp2_with fail
        refine HCM2.out.mono ?_
        rintro e w3 ⟨rfl, k3, o3⟩
        have hr3 := Only.recB HR2.out o3 (by omega) (by omega)
        have hx3 := (o3.block w.heap.size (Array.getElem?_eq_some_iff.1 HX2.out).1 (by omega) (by omega)).trans HX2.out
        have b3 := o3.below B2.out hg hh hb2
        have K3 := hide k3; have HR3 := hide hr3; have HX3 := hide hx3; have B3 := hide b3
        clear k3 hr3 hx3 b3 o3 m0 m1 m2 c1 c2
        go_wp2
        go_meet
        case rel => exact ⟨rfl, K3.out, HR3.out, HX3.out, B3.out⟩
    case rest =>
      obtain ⟨rfl, k3, hr3, hx3, b3⟩ := hcut
      have c1 : wc.cell? ⟨w.heap.size, 1, none⟩ = some (.int .u16 inc) := blk_cell hx3 1
      have c2 : wc.cell? ⟨w.heap.size, 2, none⟩ = some (.string D) := blk_cell hx3 2
      have HBY := hide (fun W (k : StAt W g h cap s') => bytes_any k)
      have HPW := hide (fun W (k : StAt W g h cap s') => power_any k)
      have K3 := hide k3; have HR3 := hide hr3; have B3 := hide b3
      obtain ⟨T, f, hTf⟩ : ∃ T f, nextR s.b boot inc data = (T, f) := ⟨_, _, rfl⟩
      have hcs := HCS.out
      rw [hTf] at hcs HNX
      unfold Rec.v at HNX
      simp only at HNX
      have HCS2 := hide hcs
      have hbd : B0 ≤ wc.heap.size := Nat.le_trans hb b3.size
      clear hcs HCS k3 hr3 b3 hx3 HBT HCM hTf HB1 HA1 HP1 HX2 HR2 B2 K2 HW2
      go_wp2_with fail
      refine (HNX.out _).mono ?_
      rintro e w4 ⟨rfl, b4⟩
      obtain ⟨p, hp⟩ : ∃ p, w4.heap.size = p := ⟨_, rfl⟩
      obtain ⟨w5, hw5⟩ : ∃ w5, w4.alloc (.cells #[.int .u32 T.seq, .int .u16 T.inc, .string (ofL T.data)] 25) = w5 := ⟨_, rfl⟩
      have hp5 : w5.heap[p]? = some (.cells #[.int .u32 T.seq, .int .u16 T.inc, .string (ofL T.data)] 25 (0, 0)) := by rw [← hw5, ← hp]; exact heap_alloc_new w4 _
      have b5 : Below wc.heap.size wc w5 := by rw [← hw5]; exact b4.alloc b4.size _
      have hr5 := recB_below HR3.out b5 (Nat.le_refl _)
      have k5 := K3.out.below b5
      have B5 := hide (B3.out.trans (b5.mono hbd))
      have HBY5 := hide (HBY.out w5 k5)
      have HPW5 := hide (HPW.out w5 k5)
      have HW5 := hide hw5; have HP := hide hp; have HP5 := hide hp5; have HR5 := hide hr5; have K5 := hide k5
      clear hw5 hp hp5 hr5 k5 b5 b4 HNX HR3 K3 B3 c1 c2 HBY HPW
      go_upto_region 15 with (fail)
      rw [HP.out, HW5.out]
      rcases HCS2.out with ⟨f', hTf, hf0, rfl, hgot, hss⟩ | ⟨h148, T', hTok, hTf, hrest⟩
      · injection hTf with hT hf
        subst hT hf hgot hss
        have hf1 : (f == 0) = false := by simpa using hf0
        have d0 : w5.cell? ⟨w.heap.size + 1, 0, none⟩ = some (.int .u32 0) := blk_cell HR5.out 0
        have d1 : w5.cell? ⟨w.heap.size + 1, 1, none⟩ = some (.int .u16 0) := blk_cell HR5.out 1
        have d2 : w5.cell? ⟨w.heap.size + 1, 2, none⟩ = some (.string ⟨#[]⟩) := blk_cell HR5.out 2
        rw [HDK.out] at HPW5
        rw [HSB.out] at HBY5
        clear hf0
        go_wp2_with fail
        refine HBY5.out.mono ?_
        rintro e w' ⟨rfl, rfl⟩
        go_wp2_with fail
        refine HPW5.out.mono ?_
        rintro e w' ⟨rfl, rfl⟩
        go_wp2_with fail
        go_ret
        exact ⟨by simp, B5.out, _, K5.out, by omega⟩
      · injection hTf with hT hf
        subst hT hf
        have hRC := rcommit_any SB (by rw [← HSB.out, ofL_size]; exact h148) HSBS.out T hTok lf
        rw [HSBD.out] at hRC
        rw [HLN.out] at hrest
        have c0 : w5.cell? ⟨p, 0, none⟩ = some (.int .u32 T.seq) := blk_cell HP5.out 0
        have c1 : w5.cell? ⟨p, 1, none⟩ = some (.int .u16 T.inc) := blk_cell HP5.out 1
        have c2 : w5.cell? ⟨p, 2, none⟩ = some (.string (ofL T.data)) := blk_cell HP5.out 2
        obtain ⟨SB2, hSB2⟩ : ∃ SB2, ofL s'.b = SB2 := ⟨_, rfl⟩
        have hb5 : B0 ≤ w5.heap.size := Nat.le_trans hb B5.out.size
        rcases hrest with ⟨rfl, hcr, hgt⟩ | ⟨rfl, hcr, hgt, hdk⟩
        · rw [hcr] at hRC
          simp only [hSB2] at hRC
          unfold Rec.v at hRC
          have HRC := hide hRC; have HSB2 := hide hSB2; have HGT := hide hgt
          clear hRC hSB2 hgt hcr h148 hTok HCS2
          go_wp2_with fail
          refine (HRC.out _).mono ?_
          rintro e w6 ⟨rfl, b6⟩
          have k6 := K5.out.below b6
          have HBY6 := hide (bytes_any k6)
          rw [HSB2.out] at HBY6
          have hr6 := recB_below HR5.out b6 (Nat.le_refl _)
          have hp6 := (b6.block _ (Array.getElem?_eq_some_iff.1 HP5.out).1).trans HP5.out
          have B6 := hide (B5.out.trans (b6.mono hb5))
          have K6 := hide k6; have HR6 := hide hr6; have HP6 := hide hp6
          clear k6 hr6 hp6 b6 c0 c1 c2 HRC
          go_wp2_with fail
          refine HBY6.out.mono ?_
          rintro e w' ⟨rfl, rfl⟩
          cases boot with
          | false =>
            go_wp2
            go_ret
            exact ⟨by simp, B6.out, _, K6.out, HWR.out⟩
          | true =>
            have hgot := HGT.out rfl
            subst hgot
            have c0 : w6.cell? ⟨p, 0, none⟩ = some (.int .u32 got.seq) := blk_cell HP6.out 0
            have c1 : w6.cell? ⟨p, 1, none⟩ = some (.int .u16 got.inc) := blk_cell HP6.out 1
            have c2 : w6.cell? ⟨p, 2, none⟩ = some (.string (ofL got.data)) := blk_cell HP6.out 2
            have d0 : w6.cell? ⟨w.heap.size + 1, 0, none⟩ = some (.int .u32 got.seq) := blk_cell HR6.out 0
            have d1 : w6.cell? ⟨w.heap.size + 1, 1, none⟩ = some (.int .u16 got.inc) := blk_cell HR6.out 1
            have d2 : w6.cell? ⟨w.heap.size + 1, 2, none⟩ = some (.string (ofL got.data)) := blk_cell HR6.out 2
            go_wp2
            go_ret
            exact ⟨by simp, B6.out, _, K6.out, HWR.out⟩
        · rw [hcr] at hRC
          simp only [hSB2] at hRC
          unfold Rec.v at hRC
          subst hgt
          have HRC := hide hRC; have HSB2 := hide hSB2; have HDK2 := hide hdk
          clear hRC hSB2 hdk hcr h148 hTok HCS2
          go_wp2_with fail
          refine (HRC.out _).mono ?_
          rintro e w6 ⟨rfl, b6⟩
          have k6 := K5.out.below b6
          have HBY6 := hide (bytes_any k6)
          have HPW6 := hide (power_any k6)
          rw [HSB2.out] at HBY6
          rw [HDK2.out] at HPW6
          have hr6 := recB_below HR5.out b6 (Nat.le_refl _)
          have B6 := hide (B5.out.trans (b6.mono hb5))
          have K6 := hide k6
          clear k6 b6 c0 c1 c2 HRC
          have d0 : w6.cell? ⟨w.heap.size + 1, 0, none⟩ = some (.int .u32 0) := blk_cell hr6 0
          have d1 : w6.cell? ⟨w.heap.size + 1, 1, none⟩ = some (.int .u16 0) := blk_cell hr6 1
          have d2 : w6.cell? ⟨w.heap.size + 1, 2, none⟩ = some (.string ⟨#[]⟩) := blk_cell hr6 2
          clear hr6
          go_wp2_with fail
          refine HBY6.out.mono ?_
          rintro e w' ⟨rfl, rfl⟩
          go_wp2_with fail
          refine HPW6.out.mono ?_
          rintro e w' ⟨rfl, rfl⟩
          go_wp2
          go_ret
          exact ⟨by simp, B6.out, _, K6.out, HWR.out⟩
end Go.Proofs.YtocbaapnajdcfaaDoor
