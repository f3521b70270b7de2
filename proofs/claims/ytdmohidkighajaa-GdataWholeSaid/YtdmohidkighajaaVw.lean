/- The walk of GdataWhole. -/
import Derived.Test.YtdmohidkighajaaVx
import Derived.Deep.CutBlock
namespace Go.Proofs.Ytdmohidkighajaa
open Go.RowKit
set_option linter.unusedVariables false
set_option linter.unusedSimpArgs false

set_option maxHeartbeats 1000000 in
set_option maxRecDepth 20000 in
theorem gwhole_long (size : Int) (h0 : 0 ≤ size) (h1 : size ≤ 255) (first : ByteArray) (A : Option Addr) (nl cl : Nat) (w : World) (hbig : 100 < first.size ∨ 120 < nl) :
    Calls Try.prog 5 #[.int .u8 size, .string first, .slice A nl cl] w fun e w' => e = .returned (.bool true) ∧ Below w.heap.size w w' := by
  have HAW := hide (awake18_any w)
  go_enter Try.func5, Try.ntmps5
  go_upto_region 4 with (go_at_call 7; refine HAW.out.mono ?_; rintro e w1 ⟨rfl, hb1⟩)
  have HB1 := hide hb1
  clear hb1
  by_cases c1 : 100 < first.size
  · go_wp2_with fail
    go_ret
    exact ⟨rfl, HB1.out⟩
  · have c2 : 120 < nl := by omega
    go_wp2_with fail
    go_ret
    exact ⟨rfl, HB1.out⟩

set_option maxHeartbeats 4000000 in
set_option maxRecDepth 20000 in
theorem gwhole_any (size : Int) (h0 : 0 ≤ size) (h1 : size ≤ 255) (first : ByteArray) (A : Option Addr) (nl cl : Nat) (w : World) (hf : first.size ≤ 100) (hnl : nl ≤ 120) (hT : TurnsIn w A nl) :
    Calls Try.prog 5 #[.int .u8 size, .string first, .slice A nl cl] w fun e w' => e = .returned (.bool true) ∧ Below w.heap.size w w' := by
  have HAW := hide (awake18_any w)
  have HT := hide hT
  clear hT
  obtain ⟨n, hn, hn1, hn2⟩ : ∃ n : Nat, 1 + size % 64 = (n : Int) ∧ 1 ≤ n ∧ n ≤ 64 := ⟨(1 + size % 64).toNat, by omega, by omega, by omega⟩
  have HN := hide hn
  clear hn
  have HPN := hide (fun (inc : Int) w => pnew_yes n inc w (by omega) (by omega))
  have hsn : ∀ W, Calls Try.prog 9 #[.int .i64 n, .string first] W (SMade W n first) := fun W => subnew_yes n first W hn1 hn2 (by omega)
  have HSN := hide hsn
  clear hsn
  go_enter Try.func5, Try.ntmps5
  go_upto_region 4 with (go_at_call 7; refine HAW.out.mono ?_; rintro e w1 ⟨rfl, hb1⟩)
  rw [HN.out]
  have HB1 := hide hb1
  have hz1 := hb1.size
  clear hb1 HAW
  go_upto_region 8 with (first
    | (go_at_call 8; refine (HPN.out _ _).mono ?_; rintro e w2 ⟨rfl, kp2, b2⟩)
    | (go_at_call 9; refine (HSN.out _).mono ?_; rintro e w3 ⟨s, g, h, c, rfl, ks3, kg3, hs3, hg3, hh3, hsg, hsh, b3⟩))
  generalize hp : w1.heap.size = p at kp2 b2 hz1 ⊢
  have hp2 := blk_lt kp2
  have kp3 := blk_below kp2 b3
  have hz3 := b3.size
  have hsl := blk_lt ks3
  have hgl := kg3.glt
  have hhl := kg3.lt
  have bw3 : Below w.heap.size w w3 := (HB1.out.trans ((by rw [← hp] at b2; exact b2 : Below w1.heap.size w1 w2).mono (by omega))).trans (b3.mono (by omega))
  have HFR := hide (sfront_any ks3)
  have KP := hide kp3; have KS := hide ks3; have KG := hide kg3; have BW3 := hide bw3
  have LT := hide (show w.heap.size ≤ p ∧ p < w3.heap.size ∧ p < w2.heap.size ∧ w2.heap.size ≤ s ∧ w2.heap.size ≤ g ∧ w2.heap.size ≤ h ∧ s < w3.heap.size ∧ g < w3.heap.size ∧ h < w3.heap.size ∧ s ≠ g ∧ s ≠ h from ⟨by omega, by omega, by omega, by omega, by omega, by omega, by omega, by omega, by omega, hsg, hsh⟩)
  clear kp2 kp3 ks3 kg3 bw3 b2 b3 HSN HB1 hs3 hg3 hh3 hsg hsh hp2 hsl hgl hhl hz3 hz1
  go_upto_region 9 with (first
    | (go_at_call 16; refine HFR.out.mono ?_; rintro e w4 ⟨rfl, b4⟩)
    | (refine wpList_store_new rfl 34 _ _ rfl w4 34 _ #[.int .u16 0, .int .u32 0] rfl rfl (by kernel_rfl) rfl (by intro v hv; simp at hv; rcases hv with rfl | rfl <;> rfl) ?_))
  have hz4 := b4.size
  have b5 : Below w4.heap.size w4 (w4.alloc (.cells #[.int .u16 0, .int .u32 0] 34)) := (Below.refl _ _).alloc (Nat.le_refl _) _
  have kl5 : (w4.alloc (.cells #[.int .u16 0, .int .u32 0] 34)).heap[w4.heap.size]? = some (.cells #[.int .u16 0, .int .u32 0] 34 (0, 0)) := heap_alloc_new w4 _
  have hz5 : (w4.alloc (.cells #[.int .u16 0, .int .u32 0] 34)).heap.size = w4.heap.size + 1 := by simp
  have b35 : Below w3.heap.size w3 (w4.alloc (.cells #[.int .u16 0, .int .u32 0] 34)) := b4.trans (b5.mono hz4)
  have B35 := hide b35; have KL5 := hide kl5
  clear b4 b5 b35 kl5 HFR
  generalize w4.alloc (.cells #[.int .u16 0, .int .u32 0] 34) = w5 at B35 KL5 hz5 ⊢
  generalize w4.heap.size = lb at KL5 hz5 hz4 ⊢
  have HZ5 := hide hz5; have HZ4 := hide hz4
  clear hz5 hz4
  have hmm := @run_makeMap Try.prog
  go_upto_region 10 with (refine wpList_insert_kv _ rfl (.tmp 52) (.tmp 53) (.tmp 54) rfl _ [] rfl (vmap_made _) 0 0 _ rfl rfl rfl ?_; intro w6 hma6 gr6)
  have b56 : Below w5.heap.size w5 w6 := ((Below.refl _ _).alloc (Nat.le_refl _) _).trans ⟨gr6.os, gr6.tape, gr6.output, gr6.size, fun j hj => gr6.block j (by simp; omega) (by simp; omega)⟩
  have hz6 := hma6.lt
  have hz5 := HZ5.out; have hz4 := HZ4.out
  have hvf : VFix w.heap.size w6.heap.size s g h w5.heap.size lb := by
    have l := LT.out
    have z := B35.out.size
    exact ⟨⟨by omega, by omega, by omega, by omega, by omega⟩, ⟨by omega, by omega, by omega, by omega, by omega⟩, l.2.2.2.2.2.2.2.2.2.1, l.2.2.2.2.2.2.2.2.2.2, ⟨by omega, by omega, by omega⟩, ⟨by omega, by omega, by omega, by omega⟩⟩
  have hpn : p ≠ s ∧ p ≠ g ∧ p ≠ h ∧ p ≠ w5.heap.size ∧ p ≠ lb := by
    have l := LT.out
    have z := B35.out.size
    exact ⟨by omega, by omega, by omega, by omega, by omega⟩
  have b36 := B35.out.trans (b56.mono B35.out.size)
  have hvw : VW w.heap.size w6.heap.size w6 p s g h c w5.heap.size lb n [((0, 0), padS n first)] 1 (newPb n 1) { value := List.replicate n 0, vi := 0, vs := 0, is := false, came := 0, n := 0 } (sub0 n first) (.slice none 0 0) [] 0 0 :=
    ⟨blk_below KP.out b36, blk_below KS.out b36, KG.out.below b36, hma6, blk_below KL5.out b56, World.ownsRow_nil _ _ _ _, LT.out.1, hpn, Nat.le_refl _, VInv.new hn1 hn2 _ _ (zero_ok _) (by simp) rfl _ rfl⟩
  have bw6 : Below w.heap.size w w6 := BW3.out.trans (b36.mono BW3.out.size)
  have hst : VSt w.heap.size w6.heap.size w s g h c w5.heap.size lb n 0 0 0 (.int .u16 1) (.pointer (some ⟨p, 0, none⟩)) (.slice none 0 0) w6 := ⟨p, 1, _, _, _, _, [], rfl, rfl, by omega, Int.le_refl 0, Nat.le_refl 0, (by exact (show (0 : Int) * 4294967296 + 0 ≤ (0 : Int) * 4294967296 + 0 by decide)), hvw, bw6⟩
  have hbb := bw6.size
  have HVF := hide hvf; have HST := hide hst
  clear hvw hst hvf hpn b36 b56 bw6 hma6 gr6 KP KS KG KL5 B35 BW3 LT hz6 hz4 hz5 HZ5 HZ4
  generalize hBB : w5.heap.size = B at HVF HST ⊢
  generalize hba : w6.heap.size = base at HVF HST hbb ⊢
  clear hBB hba
  go_wp2_with fail
  go_loopw [58, 8, 9, 14] (fun i c8 c9 c14 wr => ∃ (k : Nat) (li ls : Int), i = .int .i64 k ∧ k ≤ nl ∧ (0 ≤ li ∧ li ≤ 65535) ∧ (0 ≤ ls ∧ ls ≤ 4294967295) ∧ VSt w.heap.size base w s g h c B lb n k li ls c8 c9 c14 wr) (fun i _ _ _ _ => nl - (intOf i).toNat)
  case atStart => exact ⟨0, 0, 0, rfl, Nat.zero_le _, by omega, by omega, HST.out⟩
  case round =>
    obtain ⟨k, li, ls, rfl, hk, hli, hls, p, inc, M, P, G, S, went, rfl, rfl, hinc, hPls, hwl, hnum, hvw, hbr⟩ := hrel
    have HVW := hide hvw; have HBR := hide hbr
    have HNB := hide (show inc ≤ k + 1 ∧ P.ls ≤ k ∧ went.length ≤ k ∧ li * 4294967296 + ls ≤ S.fi * 4294967296 + S.fs from ⟨hinc, hPls, hwl, hnum⟩)
    have HLI := hide hli; have HLS := hide hls
    clear hvw hbr hinc hPls hwl hnum hli hls HST
    by_cases hlt : k < nl
    · obtain ⟨b, o, q, a, t, rfl, hbl, hrt, ⟨hq0, hq1⟩, ha0, ha1⟩ := (HT.out.below HBR.out) k hlt
      have HRT := hide hrt
      clear hrt
      go_upto_region 14 with (first
        | (refine wpList_load_mid rfl 66 _ rfl b (o + k * 3) rfl _ _ HRT.out Try.underlying66 rfl (by kernel_rfl) ?_)
        | (refine wpList_store_new rfl 66 _ _ rfl wr 66 _ #[.int .u8 q, .int .u16 a, .string t] rfl rfl (by kernel_rfl) rfl (by intro v hv; simp at hv; rcases hv with rfl | rfl | rfl <;> rfl) ?_))
      have b4 : Below wr.heap.size wr (wr.alloc (.cells #[.int .u8 q, .int .u16 a, .string t] 66)) := (Below.refl _ _).alloc (Nat.le_refl _) _
      have hbx : (wr.alloc (.cells #[.int .u8 q, .int .u16 a, .string t] 66)).heap[wr.heap.size]? = some (.cells #[.int .u8 q, .int .u16 a, .string t] 66 (0, 0)) := heap_alloc_new wr _
      have c0 : (wr.alloc (.cells #[.int .u8 q, .int .u16 a, .string t] 66)).cell? ⟨wr.heap.size, 0, none⟩ = some (.int .u8 q) := blk_cell hbx 0
      have c1 : (wr.alloc (.cells #[.int .u8 q, .int .u16 a, .string t] 66)).cell? ⟨wr.heap.size, 1, none⟩ = some (.int .u16 a) := blk_cell hbx 1
      have c2 : (wr.alloc (.cells #[.int .u8 q, .int .u16 a, .string t] 66)).cell? ⟨wr.heap.size, 2, none⟩ = some (.string t) := blk_cell hbx 2
      have HVW4 := hide (HVW.out.below b4)
      have HBR4 := hide (HBR.out.trans (b4.mono HBR.out.size))
      clear b4 hbx HVW HBR HRT
      generalize wr.alloc (.cells #[.int .u8 q, .int .u16 a, .string t] 66) = w4 at c0 c1 c2 HVW4 HBR4 ⊢
      generalize wr.heap.size = xb at c0 c1 c2 ⊢
      go_upto_block 2 with fail
      go_cut [8, 9, 14, 17, 18, 19, 20, 21, 22] from 64 to 126 (fun c8 c9 c14 _ _ _ _ _ _ wc => VSt w.heap.size base w s g h c B lb n (k + 1) li ls c8 c9 c14 wc)
      case first =>
        have hz4 := HBR4.out.size
        have hp0 := HVW4.out.p0
        have hinv1 := HVW4.out.inv.i1
        have hi2 : inc ≤ 200 := by have := HNB.out; omega
        have hq5 : q % 5 = 0 ∨ q % 5 = 1 ∨ q % 5 = 2 ∨ q % 5 = 3 ∨ q % 5 = 4 := by omega
        rcases hq5 with hq5 | hq5 | hq5 | hq5 | hq5
        · -- commit
          have hmk := make_u8 23 5 Try.underlying23 info_u8 n (by omega)
          have hmc := fun ty => made_copy n (by omega) t w4 ty
          have HMC := hide hmc
          have c2' : (w4.alloc (.cells (madeCells #[.int .u8 0] n) 5)).cell? ⟨xb, 2, none⟩ = some (.string t) := by
            rw [World.cell?_of_block (w := w4) (((Below.refl w4.heap.size w4).alloc (Nat.le_refl _) _).block _ (World.block_lt_of_cell? _ _ c2)), c2]
          clear hmc
          go_upto_region 18 with (refine wpList_copy_ex rfl (.tmp 69) (.tmp 71) 23 9 rfl (.slice (some ⟨w4.heap.size, 0, none⟩) n n) (.string t) rfl rfl (R := fun w' => Below w4.heap.size w4 w' ∧ w4.heap.size < w'.heap.size ∧ ∀ W' : World, W'.heap[w4.heap.size]? = w'.heap[w4.heap.size]? → (convert 23 9 (.slice (some ⟨w4.heap.size, 0, none⟩) n n)).run Try.prog W' = .ok (.string (ofL (padV n t.data.toList))) W') (HMC.out _) ?_; rintro w6 ⟨hb6, hlt6, hconv⟩)
          obtain ⟨V, hV⟩ : ∃ V, ofL (padV n t.data.toList) = V := ⟨_, rfl⟩
          have hVs : V.size = n := by rw [← hV, ofL_size, padV_len]
          rw [hV] at hconv
          have hcv := hconv w6 rfl
          have HCONV := hide hconv
          obtain ⟨hcm, hinv⟩ := HVW4.out.inv.commit V hVs (by have := HNB.out; omega)
          have HNONE := hide HVW4.out.inv.none
          have k6 := HVW4.out.below hb6
          have hpc := pcommit_any k6.pa k6.inv.ok.ls.1 k6.inv.ok.ls.2 V
          rw [hcm] at hpc
          have HPC := hide hpc; have HINV := hide hinv; have K6 := hide k6
          have HB6 := hide (HBR4.out.trans (hb6.mono HBR4.out.size))
          have HLT6 := hide (show w4.heap.size < w6.heap.size ∧ w4.heap.size ≠ p from ⟨hlt6, by have := blk_lt HVW4.out.pa; omega⟩)
          have HLS0 := hide (show 0 ≤ P.ls from HVW4.out.inv.ok.ls.1)
          have HLI0 := hide HVW4.out.inv.li
          clear hconv hmk hcm hinv k6 hpc hb6 hlt6 c0 c1 c2 c2' hV HMC
          go_upto_region 20 with (go_at_call 13; refine HPC.out.mono ?_; rintro e w7 ⟨rfl, k7, o7⟩)
          have kh7 := K6.out.half HVF.out o7 k7
          have hl : Calls Try.prog 22 #[.pointer (some ⟨p, 0, none⟩)] w7 fun e w' => e = .returned (.tuple #[.string V, .agg #[.int .u16 inc, .int .u32 (P.ls + 1)], .bool true]) ∧ Below w7.heap.size w7 w' := by
            have := plast_any k7
            rw [if_pos (show 0 < P.ls + 1 by have := HLS0.out; omega)] at this
            have e := HLI0.out
            rw [← e]
            exact this
          have HL := hide hl
          have HB7 := hide (Only.below HB6.out o7 hp0 hp0 HB6.out.size)
          have HC7 := hide (show w7.heap[w4.heap.size]? = w6.heap[w4.heap.size]? from o7.block _ HLT6.out.1 HLT6.out.2 HLT6.out.2)
          have HL7 := hide (Nat.lt_of_lt_of_le HLT6.out.1 o7.size)
          have KH7 := hide kh7
          clear hl kh7 k7 o7 hcv HPC K6 HB6
          go_upto_region 21 with (first
            | (go_at_call 22; refine HL.out.mono ?_; rintro e w8 ⟨rfl, b8⟩)
            | (refine wpList_store_new rfl 34 _ _ rfl w8 34 _ #[.int .u16 inc, .int .u32 (P.ls + 1)] rfl rfl (by kernel_rfl) rfl (by intro v hv; simp at hv; rcases hv with rfl | rfl <;> rfl) ?_))
          have b9 : Below w8.heap.size w8 (w8.alloc (.cells #[.int .u16 inc, .int .u32 (P.ls + 1)] 34)) := (Below.refl _ _).alloc (Nat.le_refl _) _
          have hx9 : (w8.alloc (.cells #[.int .u16 inc, .int .u32 (P.ls + 1)] 34)).heap[w8.heap.size]? = some (.cells #[.int .u16 inc, .int .u32 (P.ls + 1)] 34 (0, 0)) := heap_alloc_new w8 _
          have b79 := b8.trans (b9.mono b8.size)
          have hcv9 := HCONV.out (w8.alloc (.cells #[.int .u16 inc, .int .u32 (P.ls + 1)] 34)) ((b79.block _ HL7.out).trans HC7.out)
          have KH9 := hide (KH7.out.below b79)
          have HMA9 := hide KH9.out.ma
          have HB9 := hide (HB7.out.trans (b79.mono HB7.out.size))
          have HX9 := hide hx9
          clear b9 hx9 b79 b8 KH7 HB7 HC7 HL7 HL HCONV
          generalize w8.alloc (.cells #[.int .u16 inc, .int .u32 (P.ls + 1)] 34) = w9 at HX9 hcv9 KH9 HMA9 HB9 ⊢
          generalize w8.heap.size = x9 at HX9 ⊢
          go_wp2_with (first
            | (refine wpList_load_row rfl 34 _ rfl _ rfl 34 #[.int .u16 inc, .int .u32 (P.ls + 1)] (0, 0) _ HX9.out Try.underlying34 rfl (by kernel_rfl) ?_)
            | (refine wpList_mapUpdate_kv _ rfl (.tmp 84) (.tmp 85) (.tmp 87) rfl B M rfl HMA9.out inc (P.ls + 1) V rfl rfl HNONE.out ?_; intro w10 hma10 gr10))
          go_meet
          case rel =>
            have nb := HNB.out
            have o10 := grown_only gr10
            exact ⟨p, inc, _, _, G, S, went, rfl, rfl, by omega, by show P.ls + 1 ≤ _; omega, by omega, nb.2.2.2, KH9.out.map HVF.out gr10 hma10 HINV.out, Only.below HB9.out o10 HVF.out.lo.2.2.2.1 HVF.out.lo.2.2.2.1 HB9.out.size⟩
        · -- a part goes
          by_cases hs : 0 < P.ls
          · have hnx := pnext_yes HVW4.out.pa HVW4.out.inv.ok hs
            have hin := HVW4.out.inv.next hs
            have HST0 : Hid (P.step.ls = P.ls) := hide (step_keeps P).1
            generalize hF : P.frame = F at hnx hin
            have HNX := hide hnx; have HIN := hide hin
            clear hnx hin hF c0 c1 c2
            go_upto_region 25 with (first
              | (go_at_call 11; refine HNX.out.mono ?_; rintro e w5 ⟨rfl, k5, o5⟩)
              | (refine wpList_store_new rfl 36 _ _ rfl w5 36 _ (frV F) rfl rfl (by kernel_rfl) rfl (frV_one F) ?_))
            have b6 : Below w5.heap.size w5 (w5.alloc (.cells (frV F) 36)) := (Below.refl _ _).alloc (Nat.le_refl _) _
            have hx6 : (w5.alloc (.cells (frV F) 36)).heap[w5.heap.size]? = some (.cells (frV F) 36 (0, 0)) := heap_alloc_new w5 _
            have k6 := (HVW4.out.pub1 HVF.out o5 k5 (HIN.out.less (fun f hf => List.mem_append_left _ hf))).below b6
            have bw5 := Only.below HBR4.out o5 hp0 hp0 hz4
            have HB6 := hide (bw5.trans (b6.mono bw5.size))
            have K6 := hide k6; have HX6 := hide hx6
            have hro := k6.ro
            have hbz := k6.bz
            have hwl : went.length ≤ 200 := by have := HNB.out; omega
            obtain ⟨i0, hi, hz0, hz1, hz2⟩ := info_parts infoFr
            clear b6 hx6 k6 bw5 o5 k5 HNX HVW4 HBR4
            generalize w5.alloc (.cells (frV F) 36) = w6 at HX6 K6 HB6 hro hbz ⊢
            generalize w5.heap.size = x6 at HX6 ⊢
            go_wp2_with (first
              | (refine wpList_load_row rfl 36 _ rfl _ rfl 36 (frV F) (0, 0) _ HX6.out Try.underlying36 rfl (by kernel_rfl) ?_)
              | (refine wpList_row1 rfl 64 36 _ rfl _ _ 19 64 rfl Try.underlying64 infoFr rfl (by decide) (by decide) rfl ?_)
              | (at_builtin; refine wpList_append_own _ rfl _ _ 64 rfl base 36 i0 (.agg (frV zFr)) 19 64 Try.underlying64 hi hz0 hz1 hz2 rfl (by decide) _ went.length _ rfl (hro.alloc _) ⟨w6.heap.size, 0, none⟩ 1 1 _ rfl rfl (new_cells _ _ _) (frV_one _) (by unfold maxLen; omega) (by omega) (by simp; omega) ?_; intro v' w7 hown7 hgrow7 hnil7))
            go_meet
            case rel =>
              have nb := HNB.out
              have b67 : Below w6.heap.size w6 (w6.alloc (.cells (frV F) 36)) := (Below.refl _ _).alloc (Nat.le_refl _) _
              have k7 := K6.out.below b67
              have bw7 := HB6.out.trans (b67.mono HB6.out.size)
              refine ⟨p, inc, M, P.step, G, S, went ++ [F], rfl, rfl, by omega, by rw [HST0.out]; omega, by simp; omega, nb.2.2.2, k7.goes HVF.out hgrow7 (by rw [frCells_snoc, List.length_append]; exact hown7) HIN.out, ?_⟩
              exact grown_below bw7 hgrow7 (fun j hj => Nat.le_trans hbb (k7.row hj).1 |> fun h => by omega) bw7.size
          · have h0 : P.ls = 0 := by have := HVW4.out.inv.ok.ls; omega
            have HNX := hide (pnext_no HVW4.out.pa h0)
            clear c0 c1 c2 hs
            go_wp2_with (first
              | (go_at_call 11; refine HNX.out.mono ?_; rintro e w5 ⟨rfl, b5⟩)
              | (refine wpList_store_new rfl 36 _ _ rfl w5 36 _ (frV zFr) rfl rfl (by kernel_rfl) rfl (frV_one zFr) ?_))
            go_meet
            case rel =>
              have nb := HNB.out
              have b6 : Below w5.heap.size w5 (w5.alloc (.cells (frV zFr) 36)) := (Below.refl _ _).alloc (Nat.le_refl _) _
              have b46 := b5.trans (b6.mono b5.size)
              exact ⟨p, inc, M, P, G, S, went, rfl, rfl, by omega, by omega, by omega, nb.2.2.2, HVW4.out.below b46, HBR4.out.trans (b46.mono hz4)⟩
        · -- a part comes
          rcases HVW4.out.ro.2 with ⟨hx, hw0⟩ | ⟨r, cap, cur, hx, hrb, hrk, hle, hcap, hcs, htk⟩
          · subst hx
            clear c2
            go_wp2_with fail
            go_meet
            case rel =>
              have nb := HNB.out
              exact ⟨p, inc, M, P, G, S, went, rfl, rfl, by omega, by omega, by omega, nb.2.2.2, HVW4.out, HBR4.out⟩
          · subst hx
            clear hle hcap hcs htk hrk
            by_cases hw : went.length = 0
            · clear c2
              go_wp2_with fail
              go_meet
              case rel =>
                have nb := HNB.out
                exact ⟨p, inc, M, P, G, S, went, rfl, rfl, by omega, by omega, by omega, nb.2.2.2, HVW4.out, HBR4.out⟩
            · obtain ⟨m, hm, hml⟩ : ∃ m : Nat, a % (went.length : Int) = m ∧ m < went.length := ⟨(a % (went.length : Int)).toNat, by have := Int.emod_nonneg a (show (went.length : Int) ≠ 0 by omega); omega, by have := Int.emod_nonneg a (show (went.length : Int) ≠ 0 by omega); have := Int.emod_lt_of_pos a (show (0 : Int) < went.length by omega); omega⟩
              obtain ⟨f, hf⟩ : ∃ f, went[m]? = some f := ⟨_, List.getElem?_eq_getElem hml⟩
              have hmem : f ∈ went := List.mem_of_getElem? hf
              have hld := FrRow.load HVW4.out.ro m f hf
              rw [Nat.mul_comm] at hld
              have hfok := HVW4.out.inv.frameIn hmem
              obtain ⟨a', b', e', G', hput, hinv'⟩ := HVW4.out.inv.put hmem
              have hsp := sput_any HVW4.out.sa HVW4.out.ga HVW4.out.inv.go HVF.out.sg HVF.out.sh f hfok hput
              have HSP := hide hsp; have HLD := hide hld; have HINV := hide hinv'
              have hwl : went.length ≤ 200 := by have := HNB.out; omega
              clear hsp hld hinv' hput hfok hf hmem c2
              go_wp2_with (first
                | (refine wpList_load_mid rfl 36 _ rfl r (m * 19) rfl _ _ HLD.out Try.underlying36 rfl (by kernel_rfl) ?_)
                | (go_at_call 12; (with_reducible refine HSP.out.mono ?_); rintro e w5 ⟨rfl, ks5, kg5, t5⟩))
              go_meet
              case rel =>
                have nb := HNB.out
                have lo := HVF.out.lo
                exact ⟨p, inc, M, P, G', S.took a' b' e' f, went, rfl, rfl, by omega, by omega, by omega, nb.2.2.2, HVW4.out.sub3 HVF.out t5 ks5 kg5 HINV.out, Three.to HBR4.out t5 lo.1 lo.2.1 lo.2.2.1 hz4⟩
        · -- latch
          clear c0 c1 c2
          cases hw : S.waits
          · have H1 := hide (slatch_no HVW4.out.sa hw)
            clear hw
            go_wp2_with (go_at_call 15; refine H1.out.mono ?_; rintro e w' ⟨rfl, rfl⟩)
            go_meet
            case rel =>
              have nb := HNB.out
              exact ⟨p, inc, M, P, G, S, went, rfl, rfl, by omega, by omega, by omega, nb.2.2.2, HVW4.out, HBR4.out⟩
          · have H1 := hide (slatch_yes HVW4.out.sa hw)
            have H2 := hide (HVW4.out.inv.latch hw)
            clear hw
            go_wp2_with (go_at_call 15; refine H1.out.mono ?_; rintro e w5 ⟨rfl, ks5, o5⟩)
            go_meet
            case rel =>
              have nb := HNB.out
              have h2 := H2.out
              exact ⟨p, inc, M, P, G, _, went, rfl, rfl, by omega, by omega, by omega, by show _ ≤ S.bi * 4294967296 + S.bs; omega, HVW4.out.sub1 HVF.out o5 ks5 h2.1, Only.below HBR4.out o5 HVF.out.lo.1 HVF.out.lo.1 hz4⟩
        · -- a publisher begins anew
          clear c0 c1 c2
          go_wp2_with (go_at_call 8; refine (HPN.out _ _).mono ?_; rintro e w5 ⟨rfl, k5, b5⟩)
          go_meet
          case rel =>
            have nb := HNB.out
            exact ⟨w4.heap.size, inc + 1, M, newPb n (inc + 1), G, S, went, by go_num, rfl, by omega, by show (0 : Int) ≤ _; omega, by omega, nb.2.2.2, HVW4.out.anew HVF.out b5 (by have := HVF.out.lo.1; have := HVF.out.hi.1; omega) k5 (HVW4.out.inv.pub hn1 hn2 (by omega)), HBR4.out.trans (b5.mono hz4)⟩
      case rest =>
        obtain ⟨p', inc', M', P', G', S', went', rfl, rfl, hinc, hPls, hwl, hnum, hvw, hbr⟩ := hcut
        have hfr := hvw.inv.fresh _ _ _ hvw.inv.front
        have HFRc := hide (sfront_any hvw.sa)
        have HVWc := hide hvw; have HBRc := hide hbr
        have HNBc := hide (show inc' ≤ ((k + 1 : Nat) : Int) + 1 ∧ P'.ls ≤ ((k + 1 : Nat) : Int) ∧ went'.length ≤ k + 1 ∧ li * 4294967296 + ls ≤ S'.fi * 4294967296 + S'.fs from ⟨hinc, hPls, hwl, hnum⟩)
        have HFX := hide hfr
        clear hinc hPls hwl hnum hvw hbr hfr HVW4 HBR4 c0 c1 c2 HNB
        go_upto_region 35 with (first
          | (go_at_call 16; refine HFRc.out.mono ?_; rintro e w5 ⟨rfl, b5⟩)
          | (refine wpList_store_new rfl 34 _ _ rfl w5 34 _ #[.int .u16 S'.fi, .int .u32 S'.fs] rfl rfl (by kernel_rfl) rfl (by intro v hv; simp at hv; rcases hv with rfl | rfl <;> rfl) ?_))
        have b6 : Below w5.heap.size w5 (w5.alloc (.cells #[.int .u16 S'.fi, .int .u32 S'.fs] 34)) := (Below.refl _ _).alloc (Nat.le_refl _) _
        have hx6 : (w5.alloc (.cells #[.int .u16 S'.fi, .int .u32 S'.fs] 34)).heap[w5.heap.size]? = some (.cells #[.int .u16 S'.fi, .int .u32 S'.fs] 34 (0, 0)) := heap_alloc_new w5 _
        have b46 := b5.trans (b6.mono b5.size)
        have k6 := HVWc.out.below b46
        have HK6 := hide k6; have HX6 := hide hx6
        have HB6 := hide (HBRc.out.trans (b46.mono HBRc.out.size))
        have HMA6 := hide k6.ma; have HLK := hide k6.inv.front
        clear b5 b6 hx6 b46 k6 HVWc HBRc HFRc
        generalize w5.alloc (.cells #[.int .u16 S'.fi, .int .u32 S'.fs] 34) = w6 at HK6 HX6 HB6 HMA6 ⊢
        generalize w5.heap.size = x6 at HX6 ⊢
        go_upto_region 36 with (first
          | (refine wpList_load_row rfl 34 _ rfl _ rfl 34 #[.int .u16 S'.fi, .int .u32 S'.fs] (0, 0) _ HX6.out Try.underlying34 rfl (by kernel_rfl) ?_)
          | (refine wpList_lookup_kv _ rfl (.tmp 133) (.tmp 134) rfl B M' rfl HMA6.out S'.fi S'.fs S'.front rfl HLK.out ?_))
        have v1 := HFX.out.1
        have v2 := HFX.out.2.1
        have v3 := HLI.out
        have v4 := HLS.out
        have hx6l : x6 < w6.heap.size := blk_lt HX6.out
        have hlbl : lb < w6.heap.size := blk_lt HK6.out.la
        have cx0 : w6.cell? ⟨x6, 0, none⟩ = some (.int .u16 S'.fi) := blk_cell HX6.out 0
        have cx1 : w6.cell? ⟨x6, 1, none⟩ = some (.int .u32 S'.fs) := blk_cell HX6.out 1
        have cl0 : w6.cell? ⟨lb, 0, none⟩ = some (.int .u16 li) := blk_cell HK6.out.la 0
        have cl1 : w6.cell? ⟨lb, 1, none⟩ = some (.int .u32 ls) := blk_cell HK6.out.la 1
        have hnn : ¬ num S'.fi S'.fs < num li ls := by rw [num_eq, num_eq]; have := HNBc.out.2.2.2; omega
        have hnb : decide (num S'.fi S'.fs < num li ls) = false := by simp [hnn]
        have hfe : (S'.front == S'.front) = true := (MapKept.bytes_beq _ _).2 rfl
        have hff : (S'.front != S'.front) = false := by simp only [bne, hfe, Bool.not_true]
        go_region_held3 (fun w' => (∀ b o, b < w6.heap.size → w'.cell? ⟨b, o, none⟩ = w6.cell? ⟨b, o, none⟩) ∧ Below w6.heap.size w6 w')
          (first | exact BS.drew _ | exact BS.go (by assumption) (by assumption))
          ((go_at_call 23; (with_reducible refine (number_any _ _ (by assumption) (by assumption) _).mono ?_); rintro e w' ⟨rfl, hbw⟩))
        obtain ⟨_, hB⟩ := ‹(∀ b o, b < w6.heap.size → _) ∧ Below w6.heap.size w6 _›
        have k7 := HK6.out.below hB
        have hx7 := blk_below HX6.out hB
        have hla7 := k7.la
        have HK7 := hide k7
        have HB7 := hide (HB6.out.trans (hB.mono HB6.out.size))
        clear k7 hB cx0 cx1 cl0 cl1
        go_wp2_with (first
          | (refine wpList_load_row rfl 34 _ rfl _ rfl 34 #[.int .u16 S'.fi, .int .u32 S'.fs] (0, 0) _ hx7 Try.underlying34 rfl (by kernel_rfl) ?_)
          | (refine wpList_store_row rfl 34 _ _ rfl lb #[.int .u16 S'.fi, .int .u32 S'.fs] rfl rfl 34 _ hla7 (by kernel_rfl) rfl (by rw [Array.all_eq_true_iff_forall_mem]; intro v hv; simp at hv; rcases hv with rfl | rfl <;> rfl) ?_))
        go_roundw
        case rel =>
          have nb := HNBc.out
          have sn := HK7.out.seen HVF.out S'.fi S'.fs
          exact ⟨k + 1, S'.fi, S'.fs, by go_num, by omega, v1, v2, p', inc', M', P', G', S', went', rfl, rfl, nb.1, nb.2.1, nb.2.2.1, Int.le_refl _, sn.1, Only.below HB7.out sn.2 HVF.out.lo.2.2.2.2 HVF.out.lo.2.2.2.2 HB7.out.size⟩
        case measure => simp [intOf]; omega
    · have hft := sfault_any HVW.out.sa
      rw [HVW.out.inv.fault] at hft
      have HFT := hide hft
      clear hft
      go_wp2_with (go_at_call 17; refine HFT.out.mono ?_; rintro e w' ⟨rfl, rfl⟩)
      go_ret
      exact ⟨rfl, HBR.out⟩
end Go.Proofs.Ytdmohidkighajaa
