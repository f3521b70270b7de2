/- The walk of law 18's awake. -/
import Derived.Test.YtdmohidkighajaaGj
namespace Go.Proofs.Ytdmohidkighajaa
open Go.RowKit
set_option linter.unusedVariables false
set_option linter.unusedSimpArgs false

def kAB : ByteArray := ⟨#[97, 98]⟩
def kXY : ByteArray := ⟨#[120, 121]⟩
def kP1 : Pb := { newPb 2 5 with last := kAB, ls := 1 }
def kF : Fr := { zFr with kind := 4, vi := 5, vs := 1, part := 0, parts := 1, bytes := kAB }
def kG0 : Gl := { value := List.replicate 2 0, vi := 0, vs := 0, is := false, came := 0, n := 0 }
def kG1 : Gl := (kG0.put kF).2.2.2
theorem k_commit : (newPb 2 5).commit kAB = (0, kP1) := by
  unfold Pb.commit
  rw [if_neg (by decide), if_neg (by decide)]
  rfl
theorem k_ok : kP1.Ok := ⟨by decide, by decide, fun _ => by decide, by decide, by decide, by decide, by decide, by decide, by decide, fun h => absurd rfl h⟩
theorem nParts_two : nParts 2 = 1 := by decide
theorem k_frame : kP1.frame = kF := by
  have e : kP1.begun = { kP1 with way := kAB, wi := 5, ws := 1, next := 0, left := nParts 2 } := if_pos rfl
  unfold Pb.frame
  rw [e]
  show (fV 5 1).of kAB.data.toList (nParts 2) 0 = kF
  rw [nParts_two]
  rfl
theorem k_put : kG0.put kF = (kAB, true, 0, kG1) := by
  have : (kG0.put kF).1 = kAB ∧ (kG0.put kF).2.1 = true ∧ (kG0.put kF).2.2.1 = 0 := by decide +kernel
  exact Prod.ext this.1 (Prod.ext this.2.1 (Prod.ext this.2.2 rfl))
theorem kgl_ok : kG0.Ok := ⟨by decide, by decide, by decide +kernel⟩
theorem kfr_ok : FrOk kF := ⟨by decide, by decide, by decide⟩
theorem eqlV (a b : Int) (W : World) : (binOp .eql 34 (.agg #[.int .u16 a, .int .u32 b]) (.agg #[.int .u16 a, .int .u32 b])).run Try.prog W = .ok (.bool true) W := by
  have := eqV 9998 W a a b b
  rw [run_eql_struct, this]
  simp

set_option maxHeartbeats 2000000 in
set_option maxRecDepth 20000 in
theorem awake18_any (w : World) : Calls Try.prog 7 #[] w fun e w' => e = .returned (.bool true) ∧ Below w.heap.size w w' := by
  have HN := hide (pnew_yes 2 5 w (by decide) (by decide))
  have hsub : ∀ W : World, Calls Try.prog 9 #[.int .i64 2, .string ⟨#[120, 121]⟩] W (SMade W 2 kXY) := fun W => subnew_yes 2 kXY W (by decide) (by decide) (by decide)
  have HSUB := hide hsub
  clear hsub
  go_enter Try.func7, Try.ntmps7
  go_upto_region 2 with (first
    | (go_at_call 8; refine HN.out.mono ?_; rintro e w1 ⟨rfl, k1, b1⟩)
    | (go_at_call 9; refine (HSUB.out _).mono ?_; rintro e w2 ⟨s, g, h, c, rfl, ks, kg, hs, hg, hh, hsg, hsh, b2⟩))
  generalize hp : w.heap.size = p at k1 b1 ⊢
  have hp1 := blk_lt k1
  have hps : p ≠ s := by omega
  have hpg : p ≠ g := by omega
  have hph : p ≠ h := by omega
  have hs0 : p ≤ s := by omega
  have hg0 : p ≤ g := by omega
  have hh0 : p ≤ h := by omega
  have k2 : PAt w2 p (newPb 2 5) := blk_below k1 b2
  have b02 : Below p w w2 := b1.trans (b2.mono (by omega))
  have hcm : Calls Try.prog 13 #[.pointer (some ⟨p, 0, none⟩), .string ⟨#[97, 98]⟩] w2 fun e w' => e = .returned (.int .i64 0) ∧ PAt w' p kP1 ∧ Only p p w2 w' := by
    have := pcommit_any k2 (by decide) (by decide) kAB
    rw [k_commit] at this
    exact this
  have KS := hide ks; have KG := hide kg; have B2 := hide b02; have HCM := hide hcm
  have hsl2 := blk_lt ks
  have hz2 : p ≤ w2.heap.size := by omega
  clear k1 b1 b2 ks kg k2 b02 hcm HN HSUB
  go_upto_region 3 with (go_at_call 13; refine HCM.out.mono ?_; rintro e w3 ⟨rfl, k3, o3⟩)
  have ks3 : SAt w3 s g (sub0 2 kXY) := blk_only KS.out o3 hps.symm hps.symm
  have kg3 : GAt w3 g h c kG0 := KG.out.keep o3 hpg.symm hpg.symm hph.symm hph.symm
  have b3 : Below p w w3 := Only.below B2.out o3 (Nat.le_refl _) (Nat.le_refl _) hz2
  have hz3 := o3.size
  have hnx : Calls Try.prog 11 #[.pointer (some ⟨p, 0, none⟩)] w3 fun e w' => e = .returned (.tuple #[.agg (frV kF), .bool true]) ∧ PAt w' p kP1.step ∧ Only p p w3 w' := by
    have := pnext_yes k3 k_ok (by decide)
    rw [k_frame] at this
    exact this
  have HNX := hide hnx; have KS3 := hide ks3; have KG3 := hide kg3; have B3 := hide b3
  clear hnx ks3 kg3 b3 k3 o3 KS KG B2 HCM
  go_upto_region 4 with (first
    | (go_at_call 11; refine HNX.out.mono ?_; rintro e w4 ⟨rfl, k4, o4⟩)
    | (refine wpList_store_new rfl 36 _ _ rfl w4 36 _ (frV kF) rfl rfl (by kernel_rfl) rfl (frV_one kF) ?_))
  have hbx : (w4.alloc (.cells (frV kF) 36)).heap[w4.heap.size]? = some (.cells (frV kF) 36 (0, 0)) := heap_alloc_new w4 _
  have hb5 : Below w4.heap.size w4 (w4.alloc (.cells (frV kF) 36)) := (Below.refl _ _).alloc (Nat.le_refl _) _
  have ks5 : SAt (w4.alloc (.cells (frV kF) 36)) s g (sub0 2 kXY) := blk_below (blk_only KS3.out o4 hps.symm hps.symm) hb5
  have kg5 : GAt (w4.alloc (.cells (frV kF) 36)) g h c kG0 := (KG3.out.keep o4 hpg.symm hpg.symm hph.symm hph.symm).below hb5
  have hz4 := o4.size
  have b5 : Below p w (w4.alloc (.cells (frV kF) 36)) := (Only.below B3.out o4 (Nat.le_refl _) (Nat.le_refl _) (by omega)).trans (hb5.mono (by omega))
  have hsp : Calls Try.prog 12 #[.pointer (some ⟨s, 0, none⟩), .agg (frV kF)] (w4.alloc (.cells (frV kF) 36)) fun e w' => e = .returned (.tuple #[.bool true, .int .i64 0]) ∧ SAt w' s g ⟨kXY, 0, 0, kAB, 5, 1, true, false⟩ ∧ GAt w' g h c kG1 ∧ Three s g h (w4.alloc (.cells (frV kF) 36)) w' :=
    sput_any ks5 kg5 kgl_ok hsg hsh kF kfr_ok k_put
  have HSP := hide hsp; have B5 := hide b5
  have hz5 := hb5.size
  clear hsp b5 ks5 kg5 hb5 k4 o4 KS3 KG3 B3 HNX
  generalize w4.alloc (.cells (frV kF) 36) = w5 at HSP B5 hbx hz5 ⊢
  go_upto_region 5 with (first
    | (refine wpList_load_row rfl 36 _ rfl _ rfl 36 (frV kF) (0, 0) _ hbx Try.underlying36 rfl (by kernel_rfl) ?_)
    | (go_at_call 12; refine HSP.out.mono ?_; rintro e w6 ⟨rfl, ks6, kg6, t6⟩))
  have b6 : Below p w w6 := Three.to B5.out t6 hs0 hg0 hh0 (by omega)
  have hz6 := t6.size
  have hfr : ∀ W, Below w6.heap.size w6 W → Calls Try.prog 16 #[.pointer (some ⟨s, 0, none⟩)] W fun e w' => e = .returned (.tuple #[.string ⟨#[120, 121]⟩, .agg #[.int .u16 0, .int .u32 0]]) ∧ Below W.heap.size W w' := fun W hW => sfront_any (blk_below ks6 hW)
  have HFR := hide hfr; have KS6 := hide ks6; have B6 := hide b6
  clear hfr ks6 b6 kg6 t6 HSP B5 hbx
  go_upto_region 6 with (go_at_call 16; refine (HFR.out _ (Below.refl _ _)).mono ?_; rintro e w7 ⟨rfl, b7⟩)
  have hb8 : Below w7.heap.size w7 (w7.alloc (.cells #[.int .u16 0, .int .u32 0] 34)) := (Below.refl _ _).alloc (Nat.le_refl _) _
  have hv8 : (w7.alloc (.cells #[.int .u16 0, .int .u32 0] 34)).heap[w7.heap.size]? = some (.cells #[.int .u16 0, .int .u32 0] 34 (0, 0)) := heap_alloc_new w7 _
  have hz7 := b7.size
  have hz8 := hb8.size
  have ks8 := blk_below (blk_below KS6.out b7) hb8
  have b8 : Below p w (w7.alloc (.cells #[.int .u16 0, .int .u32 0] 34)) := (B6.out.trans (b7.mono (by omega))).trans (hb8.mono (by omega))
  have hlt : Calls Try.prog 15 #[.pointer (some ⟨s, 0, none⟩)] (w7.alloc (.cells #[.int .u16 0, .int .u32 0] 34)) fun e w' => e = .returned (.bool true) ∧ SAt w' s g ⟨kAB, 5, 1, ⟨#[]⟩, 0, 0, false, false⟩ ∧ Only s s (w7.alloc (.cells #[.int .u16 0, .int .u32 0] 34)) w' := slatch_yes ks8 rfl
  have hs7 : s < w7.heap.size := by have := blk_lt KS6.out; omega
  have HLT := hide hlt; have HV8 := hide hv8; have B8 := hide b8
  clear hlt hv8 b8 ks8 hb8 b7 HFR KS6 B6
  generalize hw8 : w7.alloc (.cells #[.int .u16 0, .int .u32 0] 34) = w8 at HLT HV8 B8 hz8 ⊢
  clear hw8
  generalize hv : w7.heap.size = v at HV8 hz8 hs7 hz7 ⊢
  clear hv
  go_upto_region 7 with (go_at_call 15; refine HLT.out.mono ?_; rintro e w9 ⟨rfl, ks9, o9⟩)
  have hv9 : w9.heap[v]? = some (.cells #[.int .u16 0, .int .u32 0] 34 (0, 0)) := blk_only HV8.out o9 (by omega) (by omega)
  have hz9 := o9.size
  have b9 : Below p w w9 := Only.below B8.out o9 hs0 hs0 (by omega)
  have hfr : Calls Try.prog 16 #[.pointer (some ⟨s, 0, none⟩)] w9 fun e w' => e = .returned (.tuple #[.string ⟨#[97, 98]⟩, .agg #[.int .u16 5, .int .u32 1]]) ∧ Below w9.heap.size w9 w' := sfront_any ks9
  have HFR := hide hfr; have HV9 := hide hv9; have B9 := hide b9
  clear hfr hv9 b9 ks9 o9 HLT HV8 B8
  go_upto_region 8 with (go_at_call 16; refine HFR.out.mono ?_; rintro e w10 ⟨rfl, b10⟩)
  have hv10 := blk_below HV9.out b10
  have d0 : w10.cell? ⟨v, 0, none⟩ = some (.int .u16 0) := blk_cell hv10 0
  have d1 : w10.cell? ⟨v, 1, none⟩ = some (.int .u32 0) := blk_cell hv10 1
  have hv10l := blk_lt hv10
  have b11 : Below p w w10 := B9.out.trans (b10.mono (by omega))
  have B11 := hide b11
  have hz10 := b10.size
  have e1 := fun W => eqlV 0 0 W
  have e2 := fun W => eqlV 5 1 W
  clear hv10 b10 b11 HFR HV9 B9
  go_wp2_with (first
    | (refine wpList_buildTo rfl 34 _ rfl _ rfl #[.int .u16 0, .int .u32 0] (by kernel_rfl) ?_)
    | (refine wpList_buildTo rfl 34 _ rfl _ rfl #[.int .u16 5, .int .u32 1] (by kernel_rfl) ?_))
  go_ret
  exact ⟨rfl, by rw [hp]; exact B11.out.alloc (by omega) _⟩
end Go.Proofs.Ytdmohidkighajaa
