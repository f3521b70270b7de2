/- The walk of retain.body. -/
import Derived.Test.YtocbaapnajdcfaaDoorPe
import Derived.Test.YtocbaapnajdcfaaDoorCs
import Derived.Test.YtocbaapnajdcfaaDoorShelf
namespace Go.Proofs.YtocbaapnajdcfaaDoor
open Go.RowKit
set_option linter.unusedVariables false
set_option linter.unusedSimpArgs false

theorem BS.up {w W W' : World} (h : BS w W) {g : Nat} (b : Below g W W') (hg : w.heap.size ≤ g) : BS w W' := BS.of (h.2.trans (b.mono hg))
theorem repeat0 (n : Nat) : (⟨(Lib.repeatL (⟨#[0]⟩ : ByteArray).data.toList n).toArray⟩ : ByteArray) = ofL (List.replicate n 0) := by
  have h : ∀ n, Lib.repeatL [0] n = List.replicate n (0 : UInt8) := by
    intro n
    induction n with
    | zero => rfl
    | succ n ih => simp [Lib.repeatL, List.replicate_succ] at ih ⊢; exact ih
  exact congrArg ofL (h n)

theorem beL2 {n : Nat} (h : n < 65536) : beL n 2 = [UInt8.ofNat (n / 256), UInt8.ofNat (n % 256)] := by
  simp only [beL, Nat.pow_one, Nat.pow_zero, Nat.div_one]
  rw [show n / 256 % 256 = n / 256 by omega]

set_option maxRecDepth 100000 in
set_option maxHeartbeats 1000000 in
theorem body_any (r : Rec) (ok : r.ok) (w : World) : Calls Tryd.prog 34 #[.agg r.v] w fun e w' => e = .returned (.string (ofL (slotL r))) ∧ Below w.heap.size w w' := by
  have s0 := ok.seq
  have s1 := ok.inc
  have s3 := ok.data
  have hb0 := heap_alloc_new w (.cells r.v 25)
  have hbw : Below w.heap.size w (w.alloc (.cells r.v 25)) := (Below.refl _ _).alloc (Nat.le_refl _) _
  have OK := hide ok
  have HB0 := hide hb0
  have HBW := hide hbw
  clear ok hb0 hbw
  unfold Rec.v
  go_enter Tryd.func34, Tryd.ntmps34
  go_wp2_with fail
  have hb0 := HB0.out
  have hbw := HBW.out
  unfold Rec.v at hb0 hbw
  generalize w.alloc (.cells #[.int .u32 r.seq, .int .u16 r.inc, .string (ofL r.data)] 25) = W at hb0 hbw ⊢
  have c0 : W.cell? ⟨w.heap.size, 0, none⟩ = some (.int .u32 r.seq) := blk_cell hb0 0
  have c1 : W.cell? ⟨w.heap.size, 1, none⟩ = some (.int .u16 r.inc) := blk_cell hb0 1
  have hlt : w.heap.size < W.heap.size := (Array.getElem?_eq_some_iff.1 hb0).1
  have HBW := hide hbw
  have HB0 := hide hb0
  clear hb0 hbw
  have l0 : ([] : List UInt8).length ≤ 800 := by decide
  have l4 : ([] ++ beL r.seq 4).length ≤ 900 := by simp [beL_length]
  go_region_held3 (fun w' => (∀ b o, b < W.heap.size → w'.cell? ⟨b, o, none⟩ = W.cell? ⟨b, o, none⟩) ∧ Below W.heap.size W w')
    (first | exact BS.drew _ | assumption | exact BS.up (by assumption) (by assumption) (Nat.le_refl _))
    (first
      | (go_at_call 40; refine (newpen_any _).mono ?_; rintro e w1 ⟨rfl, hp1, hb1⟩; have hp1' : PenAt w1 W.heap.size [] := hp1; have hb1' : Below W.heap.size _ w1 := hb1; clear hp1 hb1)
      | (go_at_call 41; (with_reducible refine (penfour_any (by assumption) l0 _ (by assumption)).mono ?_); rintro e w2 ⟨rfl, hp2, hb2⟩)
      | (go_at_call 42; (with_reducible refine (pentwo_any (by assumption) l4 _ (by assumption)).mono ?_); rintro e w3 ⟨rfl, hp3, hb3⟩))
  have hS := ‹(∀ b o, b < W.heap.size → w3.cell? ⟨b, o, none⟩ = W.cell? ⟨b, o, none⟩) ∧ Below W.heap.size W w3›
  have hb3' : Below w.heap.size w w3 := HBW.out.trans (hS.2.mono (Nat.le_of_lt hlt))
  have hbx : w3.heap[w.heap.size]? = some (.cells #[.int .u32 r.seq, .int .u16 r.inc, .string (ofL r.data)] 25 (0, 0)) := (hS.2.block _ hlt).trans HB0.out
  obtain ⟨q, hq⟩ : ∃ q, W.heap.size = q := ⟨_, rfl⟩
  rw [hq] at hp3 hlt ⊢
  have c2 : w3.cell? ⟨w.heap.size, 2, none⟩ = some (.string (ofL r.data)) := blk_cell hbx 2
  obtain ⟨L1, hL1⟩ : ∃ L1, [] ++ beL r.seq 4 ++ [UInt8.ofNat (r.inc / 256), UInt8.ofNat (r.inc % 256)] = L1 := ⟨_, rfl⟩
  rw [hL1] at hp3
  have hl1 : L1.length = 6 := by rw [← hL1]; simp [beL_length]
  have hds : (ofL r.data).size = r.data.length := ofL_size _
  have HBX := hide hbx; have HB3 := hide hb3'; have HL1 := hide hL1; have HQ := hide hq; have HDS := hide hds
  rename_i hS0
  clear hS hS0 hb3' hbx c0 c1 l0 l4 hp2 hb3 hb2 hp1' hb1' hL1 hq hds HBW HB0
  have hz : ((ofL r.data).size : Int) = (r.data.length : Int) := by rw [HDS.out]
  have hz64 : (ofL r.data).size ≤ 64 := by rw [HDS.out]; exact s3
  go_wp2_with fail
  refine (pensmall_any hp3 (by omega) (ofL r.data) hz64).mono ?_
  rintro e w4 ⟨rfl, k4, b4⟩
  rw [ofL_data, HDS.out] at k4
  have hbx4 := (b4.block _ hlt).trans HBX.out
  have c42 : w4.cell? ⟨w.heap.size, 2, none⟩ = some (.string (ofL r.data)) := blk_cell hbx4 2
  have HB4 := hide (HB3.out.trans (b4.mono (Nat.le_of_lt hlt)))
  clear hp3 c2 b4 HBX HB3 hbx4
  obtain ⟨n, hn⟩ : ∃ n, 64 - r.data.length = n := ⟨_, rfl⟩
  have hn2 : (64 : Int) - (r.data.length : Int) = (n : Int) := by omega
  have hn3 : n ≤ 64 := by omega
  have HN := hide hn
  clear hn
  have K4 := hide k4
  clear k4
  go_wp2_with fail
  have HR := hide (Tryd.strings_Repeat ⟨#[0]⟩ n w4 (by omega) (by show 1 * n ≤ _; omega))
  rw [repeat0] at HR
  refine HR.out.mono ?_
  rintro e w5 ⟨rfl, b5⟩
  clear HR
  have k5 := K4.out.below b5 (Nat.le_refl _)
  have hr5 : (ofL (List.replicate n 0)).size ≤ 1000 := by rw [ofL_size, List.length_replicate]; omega
  obtain ⟨L2, hL2⟩ : ∃ L2, L1 ++ (beL r.data.length 1 ++ r.data) = L2 := ⟨_, rfl⟩
  rw [hL2] at k5
  have hl2 : L2.length ≤ 71 := by rw [← hL2]; simp [beL_length]; omega
  have HT := hide (pentext_any k5 (by omega) _ hr5)
  rw [ofL_data] at HT
  have HB5 := hide (HB4.out.trans (b5.mono HB4.out.size))
  have HL2 := hide hL2
  clear k5 b5 K4 HB4 hL2
  go_wp2_with fail
  refine HT.out.mono ?_
  rintro e w6 ⟨rfl, k6, b6⟩
  clear HT
  have hL3 : L2 ++ List.replicate n 0 = baseL r := by
    rw [← HL2.out, ← HL1.out, ← HN.out]
    simp [baseL, headL, beL2 s1]
  rw [hL3] at k6
  have hbl := baseL_length OK.out
  have hsd : slotL r = Crc.sealL (baseL r) := rfl
  obtain ⟨L3, hL3'⟩ : ∃ L3, baseL r = L3 := ⟨_, rfl⟩
  rw [hL3'] at k6 hbl hsd
  have HB6 := hide (HB5.out.trans (b6.mono (Nat.le_of_lt hlt)))
  have HP := hide (penstring_any k6 (by omega))
  have HSD := hide hsd
  have hL3s : (ofL L3).size ≤ 1000 := by rw [ofL_size]; omega
  have HC := hide (csealed_any (ofL L3) hL3s w6)
  rw [ofL_data] at HC
  clear k6 b6 hL3 hL3' hbl hsd HB5
  go_wp2_with fail
  refine HP.out.mono ?_
  rintro e w7 ⟨rfl, rfl⟩
  go_wp2_with fail
  refine HC.out.mono ?_
  rintro e w8 ⟨rfl, b8⟩
  rw [← HSD.out]
  go_wp2_with fail
  go_ret
  exact ⟨rfl, HB6.out.trans (b8.mono HB6.out.size)⟩
end Go.Proofs.YtocbaapnajdcfaaDoor
