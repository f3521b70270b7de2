/- RetainTears. -/
import Derived.Test.YtocbaapnajdcfaaDoorLe
namespace Go.Proofs.YtocbaapnajdcfaaDoor
open Go.RowKit
set_option linter.unusedVariables false
set_option linter.unusedSimpArgs false
attribute [local go_sem] ofL_toList

/-- Strings that came in. -/
def StrsIn (W : World) (A : Option Addr) (n : Nat) : Prop := ∀ i, i < n → ∃ (a : Addr) (s : ByteArray), A = some a ∧ a.block < W.heap.size ∧ W.cell? (a.add i) = some (.string s)
theorem StrsIn.keep {W W' : World} {A : Option Addr} {n : Nat} (h : StrsIn W A n) (b : Below W.heap.size W W') : StrsIn W' A n := by
  intro i hi
  obtain ⟨a, s, h1, h2, h3⟩ := h i hi
  refine ⟨a, s, h1, Nat.lt_of_lt_of_le h2 b.size, ?_⟩
  rw [b.cell (by rw [block_add]; exact h2)]
  exact h3

set_option maxRecDepth 100000 in
set_option maxHeartbeats 1000000 in
theorem tears_long (A : Option Addr) (nl cl : Nat) (data : ByteArray) (n : Int) (w : World) (hl : 8 < nl ∨ 64 < data.size) :
    Calls Tryd.prog 4 #[.slice A nl cl, .string data, .int .u8 n] w fun e w' => e = .returned (.bool true) ∧ Below w.heap.size w w' := by
  by_cases h1 : 8 < nl
  · have hi : (8 : Int) < (nl : Int) := by omega
    clear hl
    go_enter Tryd.func4, Tryd.ntmps4
    go_wp2_with fail
    refine (awake07 _).mono ?_
    rintro e w1 ⟨rfl, b1⟩
    go_wp2
    go_ret
    exact ⟨rfl, b1⟩
  · have h2 : 64 < data.size := by omega
    have hi : ¬ (8 : Int) < (nl : Int) := by omega
    have hj : (64 : Int) < (data.size : Int) := by omega
    clear hl
    go_enter Tryd.func4, Tryd.ntmps4
    go_wp2_with fail
    refine (awake07 _).mono ?_
    rintro e w1 ⟨rfl, b1⟩
    go_wp2
    go_ret
    exact ⟨rfl, b1⟩

def TearRel (w : World) (g h cap nl : Nat) (v8 v33 : Value) (wr : World) : Prop :=
  ∃ k : Nat, k ≤ nl ∧ v33 = .int .i64 k ∧ ∃ (last : List UInt8) (s : St) (R : Rec), last.length ≤ 64 ∧ v8 = .string (ofL last) ∧ StAt wr g h cap s ∧ Holds s R (decide (0 < k)) (75 * k) ∧ s.dark = false ∧ s.armed = false ∧ R.data = last ∧ R.seq = k ∧ Below w.heap.size w wr

set_option maxRecDepth 100000 in
set_option maxHeartbeats 8000000 in
theorem tears_any (A : Option Addr) (nl cl : Nat) (hnl : nl ≤ 8) (data : List UInt8) (hd : data.length ≤ 64) (n : Nat) (hn : n ≤ 255) (w : World) (hS : StrsIn w A nl) :
    Calls Tryd.prog 4 #[.slice A nl cl, .string (ofL data), .int .u8 n] w fun e w' => e = .returned (.bool true) ∧ Below w.heap.size w w' := by
  have hz := ofL_size data
  obtain ⟨D, hD⟩ : ∃ D, ofL data = D := ⟨_, rfl⟩
  rw [hD] at hz ⊢
  have hi : ¬ (8 : Int) < (nl : Int) := by omega
  have hj : ¬ (64 : Int) < (D.size : Int) := by omega
  have HS := hide hS; have HD := hide hD; have HZ := hide hz
  clear hS hD hz
  go_enter Tryd.func4, Tryd.ntmps4
  go_wp2_with fail
  refine (awake07 _).mono ?_
  rintro e w1 ⟨rfl, b1⟩
  have B1 := hide b1
  clear b1
  go_wp2_with fail
  refine (size_any _).mono ?_
  rintro e w' ⟨rfl, rfl⟩
  go_wp2_with fail
  refine (new_to _ 148 148 rfl).mono ?_
  rintro e w2 ⟨g, h, cap, rfl, k2, hg2, hh2, b2⟩
  have hg : w.heap.size ≤ g := Nat.le_trans B1.out.size hg2
  have hh : w.heap.size ≤ h := Nat.le_trans B1.out.size hh2
  have B2 := hide (B1.out.trans (b2.mono B1.out.size))
  have K2 := hide k2
  clear k2 b2 hg2 hh2 B1
  go_wp2_with fail
  go_loopw [8, 33] (fun v8 v33 wr => TearRel w g h cap nl v8 v33 wr) (fun _ i _ => nl - (intOf i).toNat)
  case atStart => exact ⟨0, Nat.zero_le _, rfl, [], _, Rec.zero, by decide, rfl, K2.out, zeros_holds, rfl, rfl, rfl, rfl, B2.out⟩
  case round =>
    obtain ⟨k, hk, rfl, last, s, R, hll, rfl, kr, hh0, hdk, har, hRd, hRs, bwr⟩ := hrel
    have KR := hide kr; have HH := hide hh0; have HDK := hide hdk; have HAR := hide har; have HRD := hide hRd; have HRS := hide hRs; have BWR := hide bwr
    clear kr hh0 hdk har hRd hRs bwr
    have hsz := BWR.out.size
    by_cases hlt : k < nl
    · obtain ⟨a, X, rfl, ha, hX⟩ := (HS.out.keep BWR.out) k hlt
      obtain ⟨x, hx⟩ : ∃ x, X.data.toList = x := ⟨_, rfl⟩
      have hXx : X = ofL x := by rw [← hx, ofL_of]
      by_cases hbig : 64 < X.size
      · have hb2 : (64 : Int) < (X.size : Int) := by omega
        clear hbig hx hXx
        go_wp2_with fail
        go_ret
        exact ⟨rfl, BWR.out⟩
      · have hb2 : ¬ (64 : Int) < (X.size : Int) := by omega
        have hxl : x.length ≤ 64 := by rw [← hx, size_data]; omega
        have hseq : R.seq ≠ 4294967295 := by rw [HRS.out]; omega
        obtain ⟨s2, e2, h2, d2, a2, _, _⟩ := commit_un (r := ⟨0, k, x⟩) HH.out HDK.out HAR.out hseq ⟨show 0 < 4294967296 by decide, by show k < 65536; omega, hxl⟩
        have hC : CommitP s k x = (0, s2) := by rw [Commit_eq hxl, e2]
        have HCM := hide (Commit_any KR.out k (by omega) x (by omega) (by rw [HH.out.wrote]; omega))
        rw [hC, ← hXx] at HCM
        have wk : IntKind.u16.wrap (k : Int) = (k : Int) := by rw [IntKind.wrap_u16]; omega
        have HXX := hide hXx
        have HH2 := hide (show Holds s2 ⟨k + 1, k, x⟩ (decide (0 < k + 1)) (75 * ((k + 1 : Nat) : Int)) from ⟨h2.len, by rw [h2.new, HRS.out]; simp, by rw [h2.wrote]; omega⟩)
        clear hx hXx hC e2 hbig hseq h2
        go_wp2_with fail
        refine HCM.out.mono ?_
        rintro e w4 ⟨rfl, k4, o4⟩
        have b4 := o4.below BWR.out hg hh hsz
        rw [HXX.out]
        go_wp2_with fail
        go_roundw
        case rel => exact ⟨k + 1, by omega, by go_num, x, s2, _, hxl, rfl, k4, HH2.out, d2, a2, rfl, rfl, b4⟩
        case measure => simp [intOf]; omega
    · obtain rfl : nl = k := by omega
      obtain ⟨f, hf⟩ : ∃ f, decide (0 < nl) = f := ⟨_, rfl⟩
      rw [hf] at HH
      have hfi : decide ((0 : Int) < (nl : Int)) = f := by rw [← hf]; simp
      obtain ⟨LS, hLS⟩ : ∃ LS, ofL last = LS := ⟨_, rfl⟩
      have HL := hide (load_any KR.out)
      rw [HH.out.new] at HL
      unfold Rec.v at HL
      simp only [HRD.out, hLS] at HL
      have HLS := hide hLS
      clear hLS
      obtain ⟨m0, hm0⟩ : ∃ m0, R.seq + 1 = m0 := ⟨_, rfl⟩
      have hRs1 := HRS.out
      have wm0 : IntKind.u32.wrap ((R.seq : Int) + 1) = (m0 : Int) := by rw [IntKind.wrap_u32']; omega
      have HM0 := hide hm0
      rw [HLS.out]
      clear hm0 hRs1 hi
      go_wp2_with fail
      refine HL.out.mono ?_
      rintro e w4 ⟨rfl, b4⟩
      have bw4 := BWR.out.trans (b4.mono BWR.out.size)
      obtain ⟨q, hq⟩ : ∃ q, w4.heap.size = q := ⟨_, rfl⟩
      obtain ⟨w5, hw5⟩ : ∃ w5, w4.alloc (.cells #[.int .u32 R.seq, .int .u16 R.inc, .string LS] 25) = w5 := ⟨_, rfl⟩
      have hq5 : w5.heap[q]? = some (.cells #[.int .u32 R.seq, .int .u16 R.inc, .string LS] 25 (0, 0)) := by rw [← hw5, ← hq]; exact heap_alloc_new w4 _
      have k5 : StAt w5 g h cap s := by rw [← hw5]; exact (KR.out.below b4).below ((Below.refl _ _).alloc (Nat.le_refl _) _)
      have B5 := hide (show Below w.heap.size w w5 by rw [← hw5]; exact bw4.alloc bw4.size _)
      have hqg : g < q := by rw [← hq]; exact (Array.getElem?_eq_some_iff.1 (KR.out.below b4).blk).1
      have hqh : h < q := by rw [← hq]; exact (KR.out.below b4).lt
      have HW5 := hide hw5; have HQ := hide hq; have HQ5 := hide hq5; have K5 := hide k5
      clear hw5 hq hq5 k5 b4 bw4 HL BWR KR hsz
      go_upto_region 17 with (fail)
      rw [HQ.out, HW5.out]
      have c2 : w5.cell? ⟨q, 2, none⟩ = some (.string LS) := blk_cell HQ5.out 2
      go_wp2_with fail
      refine (arm_any K5.out n (by omega)).mono ?_
      rintro e w6 ⟨rfl, k6, o6⟩
      have hq6 := (o6.block q (Array.getElem?_eq_some_iff.1 HQ5.out).1 (by omega) (by omega)).trans HQ5.out
      have b6 := o6.below B5.out hg hh B5.out.size
      have hmx : max (n : Int) 0 = n := by omega
      rw [hmx] at k6
      have HH6 := hide (HH.out.set (s' := { s with armed := true, left := (n : Int) }) rfl rfl)
      have HCM0 := hide (Commit_any k6 99 (by decide) data (by omega) (by rw [HH6.out.wrote]; omega))
      rw [HD.out] at HCM0
      have HQ6 := hide hq6; have B6 := hide b6
      have hseq : R.seq ≠ 4294967295 := by rw [HRS.out]; omega
      have HSEQ := hide hseq
      clear hq6 b6 hmx k6 o6 K5 HQ5 B5 hseq c2
      by_cases h75 : 75 ≤ n
      · obtain ⟨s4, e4, h4, d4, _⟩ := commit_arm (r := ⟨0, 99, data⟩) HH6.out HDK.out rfl rfl h75 HSEQ.out ⟨show 0 < 4294967296 by decide, show 99 < 65536 by decide, hd⟩
        have hC : CommitP { s with armed := true, left := (n : Int) } 99 data = (0, s4) := by rw [Commit_eq hd, e4]
        rw [hC] at HCM0
        have hnx : ¬ (n : Int) < 75 := by omega
        have h4' : Holds s4 ⟨m0, 99, data⟩ true (75 * (nl : Int) + 75) := by have := h4; rw [HM0.out] at this; exact this
        have HH4 := hide h4'
        clear hC e4 h4 h4' h75
        go_wp2_with fail
        refine HCM0.out.mono ?_
        rintro e w7 ⟨rfl, k7, o7⟩
        have hq7 := (o7.block q (Array.getElem?_eq_some_iff.1 HQ6.out).1 (by omega) (by omega)).trans HQ6.out
        have b7 := o7.below B6.out hg hh B6.out.size
        have HQ7 := hide hq7; have B7 := hide b7; have K7 := hide k7
        clear hq7 b7 k7 o7 HQ6 B6 HCM0
        go_wp2_with fail
        refine (off_any K7.out).mono ?_
        rintro e w8 ⟨rfl, k8, o8⟩
        have hq8 := (o8.block q (Array.getElem?_eq_some_iff.1 HQ7.out).1 (by omega) (by omega)).trans HQ7.out
        have b8 := o8.below B7.out hg hh B7.out.size
        have HH8 := hide (HH4.out.set (s' := { s4 with dark := true, armed := false, left := 0 }) rfl rfl)
        have HL8 := hide (load_any k8)
        rw [HH8.out.new] at HL8
        unfold Rec.v at HL8
        simp only [HRD.out, HLS.out, HD.out] at HL8
        have HQ8 := hide hq8; have B8 := hide b8; have K8 := hide k8
        clear hq8 b8 k8 o8 HQ7 B7 K7
        go_wp2_with fail
        refine HL8.out.mono ?_
        rintro e w9 ⟨rfl, b9⟩
        have hq9 := (b9.block q (Array.getElem?_eq_some_iff.1 HQ8.out).1).trans HQ8.out
        have bw9 := B8.out.trans (b9.mono B8.out.size)
        have k9 := K8.out.below b9
        obtain ⟨p, hp⟩ : ∃ p, w9.heap.size = p := ⟨_, rfl⟩
        obtain ⟨w10, hw10⟩ : ∃ w10, w9.alloc (.cells #[.int .u32 m0, .int .u16 99, .string D] 25) = w10 := ⟨_, rfl⟩
        have hp10 : w10.heap[p]? = some (.cells #[.int .u32 m0, .int .u16 99, .string D] 25 (0, 0)) := by rw [← hw10, ← hp]; exact heap_alloc_new w9 _
        have hq10 : w10.heap[q]? = some (.cells #[.int .u32 R.seq, .int .u16 R.inc, .string LS] 25 (0, 0)) := by rw [← hw10]; exact old_alloc hq9 _
        have hpg : g < p := by rw [← hp]; exact (Array.getElem?_eq_some_iff.1 k9.blk).1
        have hph : h < p := by rw [← hp]; exact k9.lt
        have K10 := hide (show StAt w10 g h cap { s4 with dark := true, armed := false, left := 0 } by rw [← hw10]; exact k9.below ((Below.refl _ _).alloc (Nat.le_refl _) _))
        have B10 := hide (show Below w.heap.size w w10 by rw [← hw10]; exact bw9.alloc bw9.size _)
        have HW10 := hide hw10; have HP := hide hp; have HP10 := hide hp10; have HQ10 := hide hq10
        clear hw10 hp hp10 hq10 hq9 bw9 k9 b9 HL8 HQ8 B8 K8
        go_upto_region 23 with (fail)
        rw [HP.out, HW10.out]
        have c0 : w10.cell? ⟨q, 0, none⟩ = some (.int .u32 R.seq) := blk_cell HQ10.out 0
        have c1 : w10.cell? ⟨q, 1, none⟩ = some (.int .u16 R.inc) := blk_cell HQ10.out 1
        have c2 : w10.cell? ⟨q, 2, none⟩ = some (.string LS) := blk_cell HQ10.out 2
        have d0 : w10.cell? ⟨p, 0, none⟩ = some (.int .u32 m0) := blk_cell HP10.out 0
        have d1 : w10.cell? ⟨p, 1, none⟩ = some (.int .u16 99) := blk_cell HP10.out 1
        have d2 : w10.cell? ⟨p, 2, none⟩ = some (.string D) := blk_cell HP10.out 2
        go_wp2_with fail
        refine (cost_any _).mono ?_
        rintro e w' ⟨rfl, rfl⟩
        go_wp2_with fail
        refine (on_any K10.out).mono ?_
        rintro e w11 ⟨rfl, k11, o11⟩
        have hp11 := (o11.block p (Array.getElem?_eq_some_iff.1 HP10.out).1 (by omega) (by omega)).trans HP10.out
        have b11 := o11.below B10.out hg hh B10.out.size
        have HH11 := hide (HH8.out.set (s' := { s4 with dark := false, armed := false, left := 0 }) rfl rfl)
        obtain ⟨s5, e5, h5, _, _, _, _⟩ := commit_un (r := ⟨0, 100, last⟩) HH11.out rfl rfl (by have := HM0.out; have := HRS.out; show m0 ≠ _; omega) ⟨show 0 < 4294967296 by decide, show 100 < 65536 by decide, hll⟩
        have hC5 : CommitP { s4 with dark := false, armed := false, left := 0 } 100 last = (0, s5) := by rw [Commit_eq hll, e5]
        have HCM := hide (Commit_any k11 100 (by decide) last (by omega) (by rw [HH11.out.wrote]; omega))
        rw [show (CommitP _ 100 last) = (0, s5) from hC5, HLS.out] at HCM
        have HN5 := hide h5.new
        have HP11 := hide hp11; have B11 := hide b11
        clear hp11 b11 k11 o11 hC5 e5 h5 c0 c1 c2 d0 d1 d2 HP10 HQ10 B10 K10
        go_wp2_with fail
        refine HCM.out.mono ?_
        rintro e w12 ⟨rfl, k12, o12⟩
        have hp12 := (o12.block p (Array.getElem?_eq_some_iff.1 HP11.out).1 (by omega) (by omega)).trans HP11.out
        have b12 := o12.below B11.out hg hh B11.out.size
        have HL12 := hide (load_any k12)
        rw [HN5.out] at HL12
        unfold Rec.v at HL12
        simp only [HLS.out] at HL12
        have HP12 := hide hp12; have B12 := hide b12
        obtain ⟨m1, hm1⟩ : ∃ m1, m0 + 1 = m1 := ⟨_, rfl⟩
        have wm1 : IntKind.u32.wrap ((m0 : Int) + 1) = (m1 : Int) := by have := HM0.out; have := HRS.out; rw [IntKind.wrap_u32']; omega
        rw [hm1] at HL12
        clear hp12 b12 k12 o12 hm1 HP11 B11 HCM
        go_wp2_with fail
        refine HL12.out.mono ?_
        rintro e w13 ⟨rfl, b13⟩
        have hp13 := (b13.block p (Array.getElem?_eq_some_iff.1 HP12.out).1).trans HP12.out
        have bw13 := B12.out.trans (b13.mono B12.out.size)
        obtain ⟨o, ho⟩ : ∃ o, w13.heap.size = o := ⟨_, rfl⟩
        obtain ⟨w14, hw14⟩ : ∃ w14, w13.alloc (.cells #[.int .u32 m1, .int .u16 100, .string LS] 25) = w14 := ⟨_, rfl⟩
        have ho14 : w14.heap[o]? = some (.cells #[.int .u32 m1, .int .u16 100, .string LS] 25 (0, 0)) := by rw [← hw14, ← ho]; exact heap_alloc_new w13 _
        have hp14 := show w14.heap[p]? = some (.cells #[.int .u32 m0, .int .u16 99, .string D] 25 (0, 0)) by rw [← hw14]; exact old_alloc hp13 _
        have B14 := hide (show Below w.heap.size w w14 by rw [← hw14]; exact bw13.alloc bw13.size _)
        have HW14 := hide hw14; have HO := hide ho
        clear hw14 ho hp13 bw13 b13 HL12
        go_upto_region 31 with (fail)
        rw [HO.out, HW14.out]
        have c0 : w14.cell? ⟨o, 0, none⟩ = some (.int .u32 m1) := blk_cell ho14 0
        have c1 : w14.cell? ⟨o, 1, none⟩ = some (.int .u16 100) := blk_cell ho14 1
        have c2 : w14.cell? ⟨o, 2, none⟩ = some (.string LS) := blk_cell ho14 2
        have d0 : w14.cell? ⟨p, 0, none⟩ = some (.int .u32 m0) := blk_cell hp14 0
        have hsame := fun W : World => eqRec 9998 W m1 m1 100 100 LS LS
        clear hp14 ho14
        go_wp2
        go_ret
        exact ⟨by simp, B14.out⟩
      · obtain ⟨s4, e4, h4, d4, _⟩ := commit_tear (r := ⟨0, 99, data⟩) HH6.out HDK.out rfl rfl (by omega) HSEQ.out ⟨show 0 < 4294967296 by decide, show 99 < 65536 by decide, hd⟩
        have hC : CommitP { s with armed := true, left := (n : Int) } 99 data = (12, s4) := by rw [Commit_eq hd, e4]
        rw [hC] at HCM0
        have hnx : (n : Int) < 75 := by omega
        have HH4 := hide h4
        clear hC e4 h4 h75
        go_wp2_with fail
        refine HCM0.out.mono ?_
        rintro e w7 ⟨rfl, k7, o7⟩
        have hq7 := (o7.block q (Array.getElem?_eq_some_iff.1 HQ6.out).1 (by omega) (by omega)).trans HQ6.out
        have b7 := o7.below B6.out hg hh B6.out.size
        have HQ7 := hide hq7; have B7 := hide b7; have K7 := hide k7
        clear hq7 b7 k7 o7 HQ6 B6 HCM0
        go_wp2_with fail
        refine (off_any K7.out).mono ?_
        rintro e w8 ⟨rfl, k8, o8⟩
        have hq8 := (o8.block q (Array.getElem?_eq_some_iff.1 HQ7.out).1 (by omega) (by omega)).trans HQ7.out
        have b8 := o8.below B7.out hg hh B7.out.size
        have HH8 := hide (HH4.out.set (s' := { s4 with dark := true, armed := false, left := 0 }) rfl rfl)
        have HL8 := hide (load_any k8)
        rw [HH8.out.new] at HL8
        unfold Rec.v at HL8
        simp only [HRD.out, HLS.out, HD.out] at HL8
        have HQ8 := hide hq8; have B8 := hide b8; have K8 := hide k8
        clear hq8 b8 k8 o8 HQ7 B7 K7
        go_wp2_with fail
        refine HL8.out.mono ?_
        rintro e w9 ⟨rfl, b9⟩
        have hq9 := (b9.block q (Array.getElem?_eq_some_iff.1 HQ8.out).1).trans HQ8.out
        have bw9 := B8.out.trans (b9.mono B8.out.size)
        have k9 := K8.out.below b9
        obtain ⟨p, hp⟩ : ∃ p, w9.heap.size = p := ⟨_, rfl⟩
        obtain ⟨w10, hw10⟩ : ∃ w10, w9.alloc (.cells #[.int .u32 R.seq, .int .u16 R.inc, .string LS] 25) = w10 := ⟨_, rfl⟩
        have hp10 : w10.heap[p]? = some (.cells #[.int .u32 R.seq, .int .u16 R.inc, .string LS] 25 (0, 0)) := by rw [← hw10, ← hp]; exact heap_alloc_new w9 _
        have hq10 : w10.heap[q]? = some (.cells #[.int .u32 R.seq, .int .u16 R.inc, .string LS] 25 (0, 0)) := by rw [← hw10]; exact old_alloc hq9 _
        have hpg : g < p := by rw [← hp]; exact (Array.getElem?_eq_some_iff.1 k9.blk).1
        have hph : h < p := by rw [← hp]; exact k9.lt
        have K10 := hide (show StAt w10 g h cap { s4 with dark := true, armed := false, left := 0 } by rw [← hw10]; exact k9.below ((Below.refl _ _).alloc (Nat.le_refl _) _))
        have B10 := hide (show Below w.heap.size w w10 by rw [← hw10]; exact bw9.alloc bw9.size _)
        have HW10 := hide hw10; have HP := hide hp; have HP10 := hide hp10; have HQ10 := hide hq10
        clear hw10 hp hp10 hq10 hq9 bw9 k9 b9 HL8 HQ8 B8 K8
        go_upto_region 23 with (fail)
        rw [HP.out, HW10.out]
        have c0 : w10.cell? ⟨q, 0, none⟩ = some (.int .u32 R.seq) := blk_cell HQ10.out 0
        have c1 : w10.cell? ⟨q, 1, none⟩ = some (.int .u16 R.inc) := blk_cell HQ10.out 1
        have c2 : w10.cell? ⟨q, 2, none⟩ = some (.string LS) := blk_cell HQ10.out 2
        have d0 : w10.cell? ⟨p, 0, none⟩ = some (.int .u32 R.seq) := blk_cell HP10.out 0
        have d1 : w10.cell? ⟨p, 1, none⟩ = some (.int .u16 R.inc) := blk_cell HP10.out 1
        have d2 : w10.cell? ⟨p, 2, none⟩ = some (.string LS) := blk_cell HP10.out 2
        go_wp2_with fail
        refine (cost_any _).mono ?_
        rintro e w' ⟨rfl, rfl⟩
        go_wp2_with fail
        refine (on_any K10.out).mono ?_
        rintro e w11 ⟨rfl, k11, o11⟩
        have hp11 := (o11.block p (Array.getElem?_eq_some_iff.1 HP10.out).1 (by omega) (by omega)).trans HP10.out
        have b11 := o11.below B10.out hg hh B10.out.size
        have HH11 := hide (HH8.out.set (s' := { s4 with dark := false, armed := false, left := 0 }) rfl rfl)
        obtain ⟨s5, e5, h5, _, _, _, _⟩ := commit_un (r := ⟨0, 100, last⟩) HH11.out rfl rfl HSEQ.out ⟨show 0 < 4294967296 by decide, show 100 < 65536 by decide, hll⟩
        have hC5 : CommitP { s4 with dark := false, armed := false, left := 0 } 100 last = (0, s5) := by rw [Commit_eq hll, e5]
        have HCM := hide (Commit_any k11 100 (by decide) last (by omega) (by rw [HH11.out.wrote]; omega))
        rw [show (CommitP _ 100 last) = (0, s5) from hC5, HLS.out] at HCM
        have HN5 := hide h5.new
        have HP11 := hide hp11; have B11 := hide b11
        clear hp11 b11 k11 o11 hC5 e5 h5 c0 c1 c2 d0 d1 d2 HP10 HQ10 B10 K10
        go_wp2_with fail
        refine HCM.out.mono ?_
        rintro e w12 ⟨rfl, k12, o12⟩
        have hp12 := (o12.block p (Array.getElem?_eq_some_iff.1 HP11.out).1 (by omega) (by omega)).trans HP11.out
        have b12 := o12.below B11.out hg hh B11.out.size
        have HL12 := hide (load_any k12)
        rw [HN5.out] at HL12
        unfold Rec.v at HL12
        simp only [HLS.out] at HL12
        have HP12 := hide hp12; have B12 := hide b12
        obtain ⟨m1, hm1⟩ : ∃ m1, R.seq + 1 = m1 := ⟨_, rfl⟩
        have wm1 : IntKind.u32.wrap ((R.seq : Int) + 1) = (m1 : Int) := by have := HRS.out; rw [IntKind.wrap_u32']; omega
        rw [hm1] at HL12
        clear hp12 b12 k12 o12 hm1 HP11 B11 HCM
        go_wp2_with fail
        refine HL12.out.mono ?_
        rintro e w13 ⟨rfl, b13⟩
        have hp13 := (b13.block p (Array.getElem?_eq_some_iff.1 HP12.out).1).trans HP12.out
        have bw13 := B12.out.trans (b13.mono B12.out.size)
        obtain ⟨o, ho⟩ : ∃ o, w13.heap.size = o := ⟨_, rfl⟩
        obtain ⟨w14, hw14⟩ : ∃ w14, w13.alloc (.cells #[.int .u32 m1, .int .u16 100, .string LS] 25) = w14 := ⟨_, rfl⟩
        have ho14 : w14.heap[o]? = some (.cells #[.int .u32 m1, .int .u16 100, .string LS] 25 (0, 0)) := by rw [← hw14, ← ho]; exact heap_alloc_new w13 _
        have hp14 := show w14.heap[p]? = some (.cells #[.int .u32 R.seq, .int .u16 R.inc, .string LS] 25 (0, 0)) by rw [← hw14]; exact old_alloc hp13 _
        have B14 := hide (show Below w.heap.size w w14 by rw [← hw14]; exact bw13.alloc bw13.size _)
        have HW14 := hide hw14; have HO := hide ho
        clear hw14 ho hp13 bw13 b13 HL12
        go_upto_region 31 with (fail)
        rw [HO.out, HW14.out]
        have c0 : w14.cell? ⟨o, 0, none⟩ = some (.int .u32 m1) := blk_cell ho14 0
        have c1 : w14.cell? ⟨o, 1, none⟩ = some (.int .u16 100) := blk_cell ho14 1
        have c2 : w14.cell? ⟨o, 2, none⟩ = some (.string LS) := blk_cell ho14 2
        have d0 : w14.cell? ⟨p, 0, none⟩ = some (.int .u32 R.seq) := blk_cell hp14 0
        have hsame := fun W : World => eqRec 9998 W m1 m1 100 100 LS LS
        clear hp14 ho14
        go_wp2
        go_ret
        exact ⟨by simp, B14.out⟩
end Go.Proofs.YtocbaapnajdcfaaDoor
