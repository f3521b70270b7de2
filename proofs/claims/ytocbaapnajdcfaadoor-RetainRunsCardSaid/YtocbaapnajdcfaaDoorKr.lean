/- RetainRuns. -/
import Derived.Test.YtocbaapnajdcfaaDoorKo
namespace Go.Proofs.YtocbaapnajdcfaaDoor
open Go.RowKit
set_option linter.unusedVariables false
set_option linter.unusedSimpArgs false
attribute [local go_sem] ofL_toList

theorem one_any {w : World} {g h cap : Nat} {s : St} (k : StAt w g h cap s) (hd : s.dark = false) (hw : s.wrote ≤ 3000) (B0 : Nat) (hg : B0 ≤ g) (hh : B0 ≤ h) (what : Nat) (h8 : what ≤ 255) (inc : Nat) (hinc : inc < 65536) (X : ByteArray) (hdl : X.size ≤ 100) (n : Nat) (hn : n ≤ 255) :
    Calls Tryd.prog 20 #[.pointer (some ⟨g, 0, none⟩), .agg #[.int .u8 what, .int .u16 inc, .string X, .int .u8 n]] w (OneRes w g h cap B0 s) := by
  by_cases hwh : what % 3 = 2
  · exact one_arm k B0 hg hh what h8 hwh inc X n hn
  · have := one_act k hd hw B0 hg hh what h8 hwh inc hinc X.data.toList (by rw [size_data]; exact hdl) n hn
    rw [ofL_of] at this
    exact this

/-- Acts that came in. -/
def Acts (W : World) (A : Option Addr) (n : Nat) : Prop := ∀ i, i < n → ∃ (a : Addr) (what inc nn : Nat) (X : ByteArray), A = some a ∧ a.block < W.heap.size ∧ what ≤ 255 ∧ inc < 65536 ∧ nn ≤ 255 ∧ W.cell? (a.add (i * 4)) = some (.int .u8 what) ∧ W.cell? ⟨(a.add (i * 4)).block, (a.add (i * 4)).off + 1, none⟩ = some (.int .u16 inc) ∧ W.cell? ⟨(a.add (i * 4)).block, (a.add (i * 4)).off + 2, none⟩ = some (.string X) ∧ W.cell? ⟨(a.add (i * 4)).block, (a.add (i * 4)).off + 3, none⟩ = some (.int .u8 nn)
theorem Acts.below {W w : World} {A : Option Addr} {n : Nat} (h : Acts W A n) (b : Below W.heap.size W w) : Acts w A n := by
  intro i hi
  obtain ⟨a, what, inc, nn, X, e, hb, x0, x1, x2, c0, c1, c2, c3⟩ := h i hi
  have hbl : (a.add (i * 4)).block = a.block := block_add a _
  refine ⟨a, what, inc, nn, X, e, Nat.lt_of_lt_of_le hb b.size, x0, x1, x2, ?_, ?_, ?_, ?_⟩
  · rw [b.cell (by rw [hbl]; exact hb)]; exact c0
  · rw [b.cell (by show (a.add (i * 4)).block < _; rw [hbl]; exact hb)]; exact c1
  · rw [b.cell (by show (a.add (i * 4)).block < _; rw [hbl]; exact hb)]; exact c2
  · rw [b.cell (by show (a.add (i * 4)).block < _; rw [hbl]; exact hb)]; exact c3

set_option maxRecDepth 100000 in
set_option maxHeartbeats 1000000 in
theorem runs_long (A : Option Addr) (nl cl : Nat) (s : ByteArray) (w : World) (hl : 400 < s.size ∨ 20 < nl) :
    Calls Tryd.prog 6 #[.string s, .slice A nl cl] w fun e w' => e = .returned (.bool true) ∧ Below w.heap.size w w' := by
  by_cases h1 : 400 < s.size
  · have hi : (400 : Int) < (s.size : Int) := by omega
    clear hl
    go_enter Tryd.func6, Tryd.ntmps6
    go_wp2_with fail
    refine (awake07 _).mono ?_
    rintro e w1 ⟨rfl, b1⟩
    go_wp2
    go_ret
    exact ⟨rfl, b1⟩
  · have hi : ¬ (400 : Int) < (s.size : Int) := by omega
    have hj : (20 : Int) < (nl : Int) := by omega
    clear hl
    go_enter Tryd.func6, Tryd.ntmps6
    go_wp2_with fail
    refine (awake07 _).mono ?_
    rintro e w1 ⟨rfl, b1⟩
    go_wp2
    go_ret
    exact ⟨rfl, b1⟩

def RunRel (w : World) (g h cap nl : Nat) (v22 : Value) (wr : World) : Prop :=
  ∃ k : Nat, k ≤ nl ∧ v22 = .int .i64 k ∧ ∃ s : St, StAt wr g h cap s ∧ s.dark = false ∧ s.wrote ≤ 75 * (k : Int) ∧ Below w.heap.size w wr

set_option maxRecDepth 100000 in
set_option maxHeartbeats 8000000 in
theorem runs_any (A : Option Addr) (nl cl : Nat) (hnl : nl ≤ 20) (s : ByteArray) (hs : s.size ≤ 400) (w : World) (hA : Acts w A nl) :
    Calls Tryd.prog 6 #[.string s, .slice A nl cl] w fun e w' => e = .returned (.bool true) ∧ Below w.heap.size w w' := by
  have hi : ¬ (400 : Int) < (s.size : Int) := by omega
  have hj : ¬ (20 : Int) < (nl : Int) := by omega
  have HA := hide hA; have HS := hide hs
  clear hA hs
  go_enter Tryd.func6, Tryd.ntmps6
  go_wp2_with fail
  refine (awake07 _).mono ?_
  rintro e w1 ⟨rfl, b1⟩
  have B1 := hide b1
  clear b1
  go_wp2_with fail
  refine (of_any w1 s (by have := HS.out; omega)).mono ?_
  rintro e w2 ⟨g, h, cap, rfl, k2, hg2, hh2, b2⟩
  have hg : w.heap.size ≤ g := Nat.le_trans B1.out.size hg2
  have hh : w.heap.size ≤ h := Nat.le_trans B1.out.size hh2
  have B2 := hide (B1.out.trans (b2.mono B1.out.size))
  have K2 := hide k2
  clear k2 b2 hg2 hh2 B1
  go_wp2_with fail
  go_loopw [22] (fun v22 wr => RunRel w g h cap nl v22 wr) (fun i _ => nl - (intOf i).toNat)
  case atStart => exact ⟨0, Nat.zero_le _, rfl, _, K2.out, rfl, by show (0 : Int) ≤ _; omega, B2.out⟩
  case round =>
    obtain ⟨k, hk, rfl, st, kr, hdk, hwr, bwr⟩ := hrel
    have KR := hide kr; have HDK := hide hdk; have HWR := hide hwr; have BWR := hide bwr
    clear kr hdk hwr bwr B2 K2
    by_cases hlt : k < nl
    · obtain ⟨a, what, inc, nn, X, rfl, hab, hw8, hinc, hn8, c0, c1, c2, c3⟩ := (HA.out.below BWR.out) k hlt
      obtain ⟨q, hq⟩ : ∃ q, wr.heap.size = q := ⟨_, rfl⟩
      obtain ⟨w3, hw3⟩ : ∃ w3, wr.alloc (.cells #[.int .u8 what, .int .u16 inc, .string X, .int .u8 nn] 47) = w3 := ⟨_, rfl⟩
      have hq3 : w3.heap[q]? = some (.cells #[.int .u8 what, .int .u16 inc, .string X, .int .u8 nn] 47 (0, 0)) := by rw [← hw3, ← hq]; exact heap_alloc_new wr _
      have k3 := KR.out.below (show Below wr.heap.size wr w3 by rw [← hw3]; exact (Below.refl _ _).alloc (Nat.le_refl _) _)
      have b3 : Below w.heap.size w w3 := by rw [← hw3]; exact BWR.out.alloc BWR.out.size _
      have HQ := hide hq; have HW3 := hide hw3; have HQ3 := hide hq3; have K3 := hide k3; have B3 := hide b3
      clear hq hw3 hq3 k3 b3
      go_upto_region 9 with (fail)
      rw [HQ.out, HW3.out]
      clear c0 c1 c2 c3
      have d0 : w3.cell? ⟨q, 0, none⟩ = some (.int .u8 what) := blk_cell HQ3.out 0
      have d1 : w3.cell? ⟨q, 1, none⟩ = some (.int .u16 inc) := blk_cell HQ3.out 1
      have d2 : w3.cell? ⟨q, 2, none⟩ = some (.string X) := blk_cell HQ3.out 2
      have d3 : w3.cell? ⟨q, 3, none⟩ = some (.int .u8 nn) := blk_cell HQ3.out 3
      by_cases hbig : 100 < X.size
      · have hb2 : (100 : Int) < (X.size : Int) := by omega
        clear hbig
        go_wp2_with fail
        go_ret
        exact ⟨rfl, B3.out⟩
      · have hb2 : ¬ (100 : Int) < (X.size : Int) := by omega
        have HONE := hide (one_any K3.out HDK.out (by have := HWR.out; omega) w.heap.size hg hh what hw8 inc hinc X (by omega) nn hn8)
        clear hbig
        go_wp2_with fail
        refine HONE.out.mono ?_
        rintro e w4 ⟨rfl, b4, s4, k4, hw4⟩
        have HL4 := hide (load07_any k4)
        have K4 := hide k4; have HW4 := hide hw4; have B4 := hide (B3.out.trans b4)
        clear k4 hw4 b4 d0 d1 d2 d3
        go_wp2_with fail
        refine HL4.out.mono ?_
        rintro e w5 ⟨rfl, b5⟩
        have K5 := hide (K4.out.below b5)
        have B5 := hide (B4.out.trans (b5.mono B4.out.size))
        clear b5
        go_wp2_with fail
        refine (on_any K5.out).mono ?_
        rintro e w6 ⟨rfl, k6, o6⟩
        have b6 := o6.below B5.out hg hh B5.out.size
        go_wp2_with fail
        go_roundw
        case rel => exact ⟨k + 1, by omega, by go_num, _, k6, rfl, by have := HWR.out; have := HW4.out; show s4.wrote ≤ _; omega, b6⟩
        case measure => simp [intOf]; omega
    · have hge : k = nl := by omega
      have HL := hide (load07_any KR.out)
      go_wp2_with fail
      refine HL.out.mono ?_
      rintro e w7 ⟨rfl, b7⟩
      go_wp2
      go_ret
      exact ⟨rfl, BWR.out.trans (b7.mono BWR.out.size)⟩
end Go.Proofs.YtocbaapnajdcfaaDoor
