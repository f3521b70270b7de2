/- RetainBoots. -/
import Derived.Test.YtocbaapnajdcfaaDoorLt
namespace Go.Proofs.YtocbaapnajdcfaaDoor
open Go.RowKit
set_option linter.unusedVariables false
set_option linter.unusedSimpArgs false
attribute [local go_sem] ofL_toList

/-- A slice of bytes that came in. -/
def Turns (W : World) (A : Option Addr) (n : Nat) : Prop := ∀ i, i < n → ∃ (a : Addr) (x : Int), A = some a ∧ a.block < W.heap.size ∧ 0 ≤ x ∧ x ≤ 255 ∧ W.cell? (a.add i) = some (.int .u8 x)
theorem Turns.below {W w : World} {A : Option Addr} {n : Nat} (h : Turns W A n) (b : Below W.heap.size W w) : Turns w A n := by
  intro i hi
  obtain ⟨a, x, e, hb, h0, h1, hc⟩ := h i hi
  refine ⟨a, x, e, Nat.lt_of_lt_of_le hb b.size, h0, h1, ?_⟩
  rw [World.cell?_of_block (w := W) (b.block _ (by rw [block_add]; exact hb)), hc]

set_option maxRecDepth 100000 in
set_option maxHeartbeats 1000000 in
theorem boots_long (A : Option Addr) (nt ct : Nat) (data : ByteArray) (w : World) (hl : 64 < data.size ∨ 30 < nt) :
    Calls Tryd.prog 5 #[.string data, .slice A nt ct] w fun e w' => e = .returned (.bool true) ∧ Below w.heap.size w w' := by
  by_cases h1 : 64 < data.size
  · have hi : (64 : Int) < (data.size : Int) := by omega
    clear hl
    go_enter Tryd.func5, Tryd.ntmps5
    go_wp2_with fail
    refine (awake07 _).mono ?_
    rintro e w1 ⟨rfl, b1⟩
    go_wp2
    go_ret
    exact ⟨rfl, b1⟩
  · have h2 : 30 < nt := by omega
    have hi : ¬ (64 : Int) < (data.size : Int) := by omega
    have hj : (30 : Int) < (nt : Int) := by omega
    clear hl
    go_enter Tryd.func5, Tryd.ntmps5
    go_wp2_with fail
    refine (awake07 _).mono ?_
    rintro e w1 ⟨rfl, b1⟩
    go_wp2
    go_ret
    exact ⟨rfl, b1⟩

def BootRel (w : World) (g h cap nt : Nat) (data : List UInt8) (v6 v31 : Value) (wr : World) : Prop :=
  ∃ k : Nat, k ≤ nt ∧ v31 = .int .i64 k ∧ ∃ (s : St) (R : Rec) (n : Int), v6 = .int .u16 R.inc ∧ StAt wr g h cap s ∧ Holds s R true n ∧ (0 ≤ n ∧ n ≤ 75 * ((k : Int) + 1)) ∧ s.dark = false ∧ s.armed = false ∧ R.data = data ∧ R.inc ≤ 5 + k ∧ R.seq ≤ 1 + k ∧ Below w.heap.size w wr

set_option maxRecDepth 100000 in
set_option maxHeartbeats 8000000 in
theorem boots_any (A : Option Addr) (nt ct : Nat) (hnt : nt ≤ 30) (data : List UInt8) (hd : data.length ≤ 64) (w : World) (hT : Turns w A nt) :
    Calls Tryd.prog 5 #[.string (ofL data), .slice A nt ct] w fun e w' => e = .returned (.bool true) ∧ Below w.heap.size w w' := by
  have hz := ofL_size data
  obtain ⟨D, hD⟩ : ∃ D, ofL data = D := ⟨_, rfl⟩
  rw [hD] at hz ⊢
  have hi : ¬ (64 : Int) < (D.size : Int) := by omega
  have hj : ¬ (30 : Int) < (nt : Int) := by omega
  have HT := hide hT; have HD := hide hD; have HZ := hide hz; have HDL := hide hd
  clear hT hD hz
  go_enter Tryd.func5, Tryd.ntmps5
  go_wp2_with fail
  refine (awake07 _).mono ?_
  rintro e w1 ⟨rfl, b1⟩
  have B1 := hide b1
  clear b1
  go_wp2_with fail
  refine (size_any _).mono ?_
  rintro e w' ⟨rfl, rfl⟩
  go_wp2_with fail
  refine (new_to _ 148 148 rfl).mono ?_
  rintro e w2 ⟨g, h, cap, rfl, k2, hg2, hh2, b2⟩
  have hg : w.heap.size ≤ g := Nat.le_trans B1.out.size hg2
  have hh : w.heap.size ≤ h := Nat.le_trans B1.out.size hh2
  have B2 := hide (B1.out.trans (b2.mono B1.out.size))
  obtain ⟨s1, e1, h1, d1, a1, _, _⟩ := commit_un (r := ⟨0, 5, data⟩) zeros_holds rfl rfl (by decide) ⟨show 0 < 4294967296 by decide, show 5 < 65536 by decide, hd⟩
  have hC : CommitP ⟨List.replicate 148 0, false, false, 0, 0⟩ 5 data = (0, s1) := by rw [Commit_eq hd, e1]
  have HCM := hide (Commit_any k2 5 (by decide) data (by omega) (by decide))
  rw [hC, HD.out] at HCM
  have HH1 := hide (show Holds s1 ⟨1, 5, data⟩ true 75 from h1)
  have D1 := hide d1; have A1 := hide a1
  clear k2 b2 hg2 hh2 B1 hC e1 h1 d1 a1
  go_wp2_with fail
  refine HCM.out.mono ?_
  rintro e w3 ⟨rfl, k3, o3⟩
  have B3 := hide (o3.below B2.out hg hh B2.out.size)
  have K3 := hide k3
  clear k3 o3 HCM
  go_wp2_with fail
  go_loopw [6, 31] (fun v6 v31 wr => BootRel w g h cap nt data v6 v31 wr) (fun _ i _ => nt - (intOf i).toNat)
  case atStart => exact ⟨0, Nat.zero_le _, rfl, s1, _, 75, rfl, K3.out, HH1.out, ⟨by decide, by decide⟩, D1.out, A1.out, rfl, Nat.le_refl _, Nat.le_refl _, B3.out⟩
  case round =>
    obtain ⟨k, hk, rfl, s, R, N, rfl, kr, hh0, hN, hdk, har, hRd, hRi, hRs, bwr⟩ := hrel
    have KR := hide kr; have HH := hide hh0; have HN := hide hN; have HDK := hide hdk; have HAR := hide har; have HRD := hide hRd; have BWR := hide bwr
    have HRI := hide hRi; have HRS := hide hRs
    clear kr hh0 hN hdk har hRd bwr hRi hRs HH1 D1 A1 K3 B3 B2
    by_cases hlt : k < nt
    · obtain ⟨a, x, rfl, ha, hx0, hx1, hX⟩ := (HT.out.below BWR.out) k hlt
      obtain ⟨m, rfl⟩ : ∃ m : Nat, x = m := ⟨x.toNat, by omega⟩
      obtain ⟨i1, hi1⟩ : ∃ i1, R.inc + 1 = i1 := ⟨_, rfl⟩
      obtain ⟨q1, hq1⟩ : ∃ q1, R.seq + 1 = q1 := ⟨_, rfl⟩
      have hseq : R.seq ≠ 4294967295 := by have := HRS.out; omega
      have hinc : R.inc ≠ 65535 := by have := HRI.out; omega
      have okr : ({ R with inc := R.inc + 1 } : Rec).ok := by
        have ok := HH.out.ok
        exact ⟨ok.seq, by show R.inc + 1 < 65536; have := HRI.out; omega, ok.data⟩
      have hup : ¬ (i1 : Int) ≤ (R.inc : Int) := by omega
      have HM := hide (show (m : Int) ≤ 255 by omega)
      have HI1 := hide hi1; have HQ1 := hide hq1; have HSEQ := hide hseq; have HINC := hide hinc; have OKR := hide okr; have HXX := hide hX
      clear hi1 hq1 hseq hinc okr hx0 hx1
      by_cases h200 : m < 200
      · have hni : (m : Int) < 200 := by omega
        clear h200 hX
        have hX := HXX.out
        go_wp2_with fail
        refine (arm_any KR.out m (by omega)).mono ?_
        rintro e w6 ⟨rfl, k6, o6⟩
        have B6 := hide (o6.below BWR.out hg hh BWR.out.size)
        have hmx : max (m : Int) 0 = m := by omega
        rw [hmx] at k6
        have HH6 := hide (HH.out.set (s' := { s with armed := true, left := (m : Int) }) rfl rfl)
        have K6 := hide k6
        clear k6 o6 hmx KR BWR hX
        by_cases h75 : 75 ≤ m
        · have h75i : (75 : Int) ≤ (m : Int) := by omega
          obtain ⟨s4, e4, h4, _⟩ := commit_arm (r := { R with inc := R.inc + 1 }) HH6.out HDK.out rfl rfl h75 HSEQ.out OKR.out
          have hBt : BootP _ = (({ R with inc := R.inc + 1, seq := R.seq + 1 }, 0), s4) := (Boot_eq HH6.out HINC.out).trans e4
          have h4b : Holds s4 ⟨q1, i1, data⟩ true (N + 75) := by have := h4; rw [HRD.out] at this; simpa only [HQ1.out, HI1.out] using this
          have HH4 := hide h4b
          clear e4 h4 h4b
          clear h75
          have HB := hide (Boot_any K6.out (by rw [HH6.out.wrote]; have := HN.out; omega))
          rw [hBt] at HB
          unfold Rec.v at HB
          simp only [HI1.out, HQ1.out, HRD.out, HD.out] at HB
          clear hBt
          go_wp2_with fail
          refine HB.out.mono ?_
          rintro e w4 ⟨rfl, k4, o4⟩
          have b4 := o4.below B6.out hg hh (B6.out).size
          obtain ⟨q, hq⟩ : ∃ q, w4.heap.size = q := ⟨_, rfl⟩
          obtain ⟨w5, hw5⟩ : ∃ w5, w4.alloc (.cells #[.int .u32 q1, .int .u16 i1, .string D] 25) = w5 := ⟨_, rfl⟩
          have hq5 : w5.heap[q]? = some (.cells #[.int .u32 q1, .int .u16 i1, .string D] 25 (0, 0)) := by rw [← hw5, ← hq]; exact heap_alloc_new w4 _
          have K5 := hide (show StAt w5 g h cap s4 by rw [← hw5]; exact k4.below ((Below.refl _ _).alloc (Nat.le_refl _) _))
          have B5 := hide (show Below w.heap.size w w5 by rw [← hw5]; exact b4.alloc b4.size _)
          have hqg : g < q := by rw [← hq]; exact (Array.getElem?_eq_some_iff.1 k4.blk).1
          have hqh : h < q := by rw [← hq]; exact k4.lt
          have HW5 := hide hw5; have HQ := hide hq
          have HQ5 := hide hq5
          clear hw5 hq k4 o4 b4 HB hq5
          go_upto_region 15 with (fail)
          rw [HQ.out, HW5.out]
          have c1 : w5.cell? ⟨q, 1, none⟩ = some (.int .u16 i1) := blk_cell HQ5.out 1
          have c2 : w5.cell? ⟨q, 2, none⟩ = some (.string D) := blk_cell HQ5.out 2
          go_wp2_with fail
          refine (cost_any _).mono ?_
          rintro e w' ⟨rfl, rfl⟩
          go_wp2_with fail
          refine (off_any K5.out).mono ?_
          rintro e w6 ⟨rfl, k6, o6⟩
          have B6 := hide (o6.below B5.out hg hh B5.out.size)
          have K6 := hide k6
          clear k6 o6 K5 B5 HW5 HQ HQ5 c1 c2
          go_wp2_with fail
          refine (on_any K6.out).mono ?_
          rintro e w7 ⟨rfl, k7, o7⟩
          have B7 := hide (o7.below B6.out hg hh B6.out.size)
          have HH7 := hide (HH4.out.set (s' := { s4 with dark := false, armed := false, left := 0 }) rfl rfl)
          have HL := hide (load_any k7)
          rw [HH7.out.new] at HL
          unfold Rec.v at HL
          simp only [HRD.out, HI1.out, HQ1.out, HD.out] at HL
          have K7 := hide k7
          clear k7 o7 K6 B6
          go_wp2_with fail
          refine HL.out.mono ?_
          rintro e w8 ⟨rfl, b8⟩
          have bw8 := B7.out.trans (b8.mono B7.out.size)
          have k8 := K7.out.below b8
          obtain ⟨p, hp⟩ : ∃ p, w8.heap.size = p := ⟨_, rfl⟩
          obtain ⟨w9, hw9⟩ : ∃ w9, w8.alloc (.cells #[.int .u32 q1, .int .u16 i1, .string D] 25) = w9 := ⟨_, rfl⟩
          have hp9 : w9.heap[p]? = some (.cells #[.int .u32 q1, .int .u16 i1, .string D] 25 (0, 0)) := by rw [← hw9, ← hp]; exact heap_alloc_new w8 _
          have K9 := hide (show StAt w9 g h cap { s4 with dark := false, armed := false, left := 0 } by rw [← hw9]; exact k8.below ((Below.refl _ _).alloc (Nat.le_refl _) _))
          have B9 := hide (show Below w.heap.size w w9 by rw [← hw9]; exact bw8.alloc bw8.size _)
          have HW9 := hide hw9; have HP := hide hp
          clear hw9 hp k8 b8 bw8 HL K7 B7
          go_upto_region 24 with (fail)
          rw [HP.out, HW9.out]
          have c1 : w9.cell? ⟨p, 1, none⟩ = some (.int .u16 i1) := blk_cell hp9 1
          have c2 : w9.cell? ⟨p, 2, none⟩ = some (.string D) := blk_cell hp9 2
          clear hp9
          go_wp2_with fail
          go_roundw
          case rel => exact ⟨k + 1, by omega, by go_num, _, ⟨q1, i1, data⟩, _, rfl, K9.out, HH7.out, ⟨by have := HN.out; omega, by have := HN.out; omega⟩, rfl, rfl, rfl, by have := HRI.out; have := HI1.out; show i1 ≤ _; omega, by have := HRS.out; have := HQ1.out; show q1 ≤ _; omega, B9.out⟩
          case measure => simp [intOf]; omega
        · have h75i : ¬ (75 : Int) ≤ (m : Int) := by omega
          obtain ⟨s4, e4, h4, _⟩ := commit_tear (r := { R with inc := R.inc + 1 }) HH6.out HDK.out rfl rfl (by omega) HSEQ.out OKR.out
          have hBt : BootP _ = ((Rec.zero, 12), s4) := (Boot_eq HH6.out HINC.out).trans e4
          have HH4 := hide h4
          clear e4 h4 h75
          have HB := hide (Boot_any K6.out (by rw [HH6.out.wrote]; have := HN.out; omega))
          rw [hBt] at HB
          unfold Rec.v at HB
          simp only at HB
          clear hBt
          go_wp2_with fail
          refine HB.out.mono ?_
          rintro e w4 ⟨rfl, k4, o4⟩
          have b4 := o4.below B6.out hg hh (B6.out).size
          obtain ⟨q, hq⟩ : ∃ q, w4.heap.size = q := ⟨_, rfl⟩
          obtain ⟨w5, hw5⟩ : ∃ w5, w4.alloc (.cells #[.int .u32 (Rec.zero.seq : Nat), .int .u16 (Rec.zero.inc : Nat), .string (ofL Rec.zero.data)] 25) = w5 := ⟨_, rfl⟩
          have K5 := hide (show StAt w5 g h cap s4 by rw [← hw5]; exact k4.below ((Below.refl _ _).alloc (Nat.le_refl _) _))
          have B5 := hide (show Below w.heap.size w w5 by rw [← hw5]; exact b4.alloc b4.size _)
          have HW5 := hide hw5; have HQ := hide hq
          clear hw5 hq k4 o4 b4 HB
          go_upto_region 15 with (fail)
          rw [HQ.out, HW5.out]
          go_wp2_with fail
          refine (cost_any _).mono ?_
          rintro e w' ⟨rfl, rfl⟩
          go_wp2_with fail
          refine (off_any K5.out).mono ?_
          rintro e w6 ⟨rfl, k6, o6⟩
          have B6 := hide (o6.below B5.out hg hh B5.out.size)
          have K6 := hide k6
          clear k6 o6 K5 B5 HW5 HQ
          go_wp2_with fail
          refine (on_any K6.out).mono ?_
          rintro e w7 ⟨rfl, k7, o7⟩
          have B7 := hide (o7.below B6.out hg hh B6.out.size)
          have HH7 := hide (HH4.out.set (s' := { s4 with dark := false, armed := false, left := 0 }) rfl rfl)
          have HL := hide (load_any k7)
          rw [HH7.out.new] at HL
          unfold Rec.v at HL
          simp only [HRD.out, HD.out] at HL
          have K7 := hide k7
          clear k7 o7 K6 B6
          go_wp2_with fail
          refine HL.out.mono ?_
          rintro e w8 ⟨rfl, b8⟩
          have bw8 := B7.out.trans (b8.mono B7.out.size)
          have k8 := K7.out.below b8
          obtain ⟨p, hp⟩ : ∃ p, w8.heap.size = p := ⟨_, rfl⟩
          obtain ⟨w9, hw9⟩ : ∃ w9, w8.alloc (.cells #[.int .u32 R.seq, .int .u16 R.inc, .string D] 25) = w9 := ⟨_, rfl⟩
          have hp9 : w9.heap[p]? = some (.cells #[.int .u32 R.seq, .int .u16 R.inc, .string D] 25 (0, 0)) := by rw [← hw9, ← hp]; exact heap_alloc_new w8 _
          have K9 := hide (show StAt w9 g h cap { s4 with dark := false, armed := false, left := 0 } by rw [← hw9]; exact k8.below ((Below.refl _ _).alloc (Nat.le_refl _) _))
          have B9 := hide (show Below w.heap.size w w9 by rw [← hw9]; exact bw8.alloc bw8.size _)
          have HW9 := hide hw9; have HP := hide hp
          clear hw9 hp k8 b8 bw8 HL K7 B7
          go_upto_region 24 with (fail)
          rw [HP.out, HW9.out]
          have c1 : w9.cell? ⟨p, 1, none⟩ = some (.int .u16 R.inc) := blk_cell hp9 1
          have c2 : w9.cell? ⟨p, 2, none⟩ = some (.string D) := blk_cell hp9 2
          clear hp9
          go_wp2_with fail
          go_roundw
          case rel => exact ⟨k + 1, by omega, by go_num, _, R, _, rfl, K9.out, HH7.out, ⟨by have := HN.out; omega, by have := HN.out; omega⟩, rfl, rfl, HRD.out, by have := HRI.out; omega, by have := HRS.out; omega, B9.out⟩
          case measure => simp [intOf]; omega
      · have hni : ¬ (m : Int) < 200 := by omega
        have H75 := hide (show (75 : Int) ≤ (m : Int) by omega)
        clear h200
        have HH6 := HH
        obtain ⟨s4, e4, h4, _⟩ := commit_un (r := { R with inc := R.inc + 1 }) HH6.out HDK.out HAR.out HSEQ.out OKR.out
        have hBt : BootP _ = (({ R with inc := R.inc + 1, seq := R.seq + 1 }, 0), s4) := (Boot_eq HH6.out HINC.out).trans e4
        have h4b : Holds s4 ⟨q1, i1, data⟩ true (N + 75) := by have := h4; rw [HRD.out] at this; simpa only [HQ1.out, HI1.out] using this
        have HH4 := hide h4b
        clear e4 h4 h4b
        have HB := hide (Boot_any KR.out (by rw [HH6.out.wrote]; have := HN.out; omega))
        rw [hBt] at HB
        unfold Rec.v at HB
        simp only [HI1.out, HQ1.out, HRD.out, HD.out] at HB
        clear hBt
        go_wp2_with fail
        refine HB.out.mono ?_
        rintro e w4 ⟨rfl, k4, o4⟩
        have b4 := o4.below BWR.out hg hh (BWR.out).size
        obtain ⟨q, hq⟩ : ∃ q, w4.heap.size = q := ⟨_, rfl⟩
        obtain ⟨w5, hw5⟩ : ∃ w5, w4.alloc (.cells #[.int .u32 q1, .int .u16 i1, .string D] 25) = w5 := ⟨_, rfl⟩
        have hq5 : w5.heap[q]? = some (.cells #[.int .u32 q1, .int .u16 i1, .string D] 25 (0, 0)) := by rw [← hw5, ← hq]; exact heap_alloc_new w4 _
        have K5 := hide (show StAt w5 g h cap s4 by rw [← hw5]; exact k4.below ((Below.refl _ _).alloc (Nat.le_refl _) _))
        have B5 := hide (show Below w.heap.size w w5 by rw [← hw5]; exact b4.alloc b4.size _)
        have hqg : g < q := by rw [← hq]; exact (Array.getElem?_eq_some_iff.1 k4.blk).1
        have hqh : h < q := by rw [← hq]; exact k4.lt
        have HW5 := hide hw5; have HQ := hide hq
        have HQ5 := hide hq5
        clear hw5 hq k4 o4 b4 HB hq5
        go_upto_region 15 with (fail)
        rw [HQ.out, HW5.out]
        have c1 : w5.cell? ⟨q, 1, none⟩ = some (.int .u16 i1) := blk_cell HQ5.out 1
        have c2 : w5.cell? ⟨q, 2, none⟩ = some (.string D) := blk_cell HQ5.out 2
        have h75i : (75 : Int) ≤ (m : Int) := H75.out
        have hm255 := HM.out
        clear hni
        go_wp2_with fail
        refine (cost_any _).mono ?_
        rintro e w' ⟨rfl, rfl⟩
        go_wp2_with fail
        refine (off_any K5.out).mono ?_
        rintro e w6 ⟨rfl, k6, o6⟩
        have B6 := hide (o6.below B5.out hg hh B5.out.size)
        have K6 := hide k6
        clear k6 o6 K5 B5 HW5 HQ HQ5 c1 c2
        go_wp2_with fail
        refine (on_any K6.out).mono ?_
        rintro e w7 ⟨rfl, k7, o7⟩
        have B7 := hide (o7.below B6.out hg hh B6.out.size)
        have HH7 := hide (HH4.out.set (s' := { s4 with dark := false, armed := false, left := 0 }) rfl rfl)
        have HL := hide (load_any k7)
        rw [HH7.out.new] at HL
        unfold Rec.v at HL
        simp only [HRD.out, HI1.out, HQ1.out, HD.out] at HL
        have K7 := hide k7
        clear k7 o7 K6 B6
        go_wp2_with fail
        refine HL.out.mono ?_
        rintro e w8 ⟨rfl, b8⟩
        have bw8 := B7.out.trans (b8.mono B7.out.size)
        have k8 := K7.out.below b8
        obtain ⟨p, hp⟩ : ∃ p, w8.heap.size = p := ⟨_, rfl⟩
        obtain ⟨w9, hw9⟩ : ∃ w9, w8.alloc (.cells #[.int .u32 q1, .int .u16 i1, .string D] 25) = w9 := ⟨_, rfl⟩
        have hp9 : w9.heap[p]? = some (.cells #[.int .u32 q1, .int .u16 i1, .string D] 25 (0, 0)) := by rw [← hw9, ← hp]; exact heap_alloc_new w8 _
        have K9 := hide (show StAt w9 g h cap { s4 with dark := false, armed := false, left := 0 } by rw [← hw9]; exact k8.below ((Below.refl _ _).alloc (Nat.le_refl _) _))
        have B9 := hide (show Below w.heap.size w w9 by rw [← hw9]; exact bw8.alloc bw8.size _)
        have HW9 := hide hw9; have HP := hide hp
        clear hw9 hp k8 b8 bw8 HL K7 B7
        go_upto_region 24 with (fail)
        rw [HP.out, HW9.out]
        have c1 : w9.cell? ⟨p, 1, none⟩ = some (.int .u16 i1) := blk_cell hp9 1
        have c2 : w9.cell? ⟨p, 2, none⟩ = some (.string D) := blk_cell hp9 2
        clear hp9
        go_wp2_with fail
        go_roundw
        case rel => exact ⟨k + 1, by omega, by go_num, _, ⟨q1, i1, data⟩, _, rfl, K9.out, HH7.out, ⟨by have := HN.out; omega, by have := HN.out; omega⟩, rfl, rfl, rfl, by have := HRI.out; have := HI1.out; show i1 ≤ _; omega, by have := HRS.out; have := HQ1.out; show q1 ≤ _; omega, B9.out⟩
        case measure => simp [intOf]; omega
    · have hge : k = nt := by omega
      go_wp2
      go_ret
      exact ⟨rfl, BWR.out⟩
end Go.Proofs.YtocbaapnajdcfaaDoor
