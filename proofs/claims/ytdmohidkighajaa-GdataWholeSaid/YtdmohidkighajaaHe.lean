/- The walk of GdataComes. -/
import Derived.Test.YtdmohidkighajaaHd
import Derived.Test.YtdmohidkighajaaMc
import Derived.Test.YtdmohidkighajaaPs
namespace Go.Proofs.Ytdmohidkighajaa
open Go.RowKit
set_option linter.unusedVariables false
set_option linter.unusedSimpArgs false

set_option maxHeartbeats 1000000 in
set_option maxRecDepth 20000 in
theorem gcomes_long (size : Int) (h0 : 0 ≤ size) (h1 : size ≤ 255) (A B : Option Addr) (nv cv nt ct : Nat) (w : World) (hbig : nv < 1 ∨ 20 < nv ∨ nt < nv) :
    Calls Try.prog 3 #[.int .u8 size, .slice A nv cv, .slice B nt ct] w fun e w' => e = .returned (.bool true) ∧ Below w.heap.size w w' := by
  have HAW := hide (awake18_any w)
  go_enter Try.func3, Try.ntmps3
  go_upto_region 4 with (go_at_call 7; refine HAW.out.mono ?_; rintro e w1 ⟨rfl, hb1⟩)
  have HB1 := hide hb1
  clear hb1
  by_cases c1 : nv < 1
  · go_wp2_with fail
    go_ret
    exact ⟨rfl, HB1.out⟩
  · by_cases c2 : 20 < nv
    · go_wp2_with fail
      go_ret
      exact ⟨rfl, HB1.out⟩
    · have c3 : nt < nv := by omega
      go_wp2_with fail
      go_ret
      exact ⟨rfl, HB1.out⟩

set_option maxHeartbeats 4000000 in
set_option maxRecDepth 20000 in
theorem gcomes_any (size : Int) (h0 : 0 ≤ size) (h1 : size ≤ 255) (A B : Option Addr) (nv cv nt ct : Nat) (w : World) (hnv1 : 1 ≤ nv) (hnv2 : nv ≤ 20) (hnt : nv ≤ nt) (hS : StrsIn w A nv) (hT : Turns w B nt) :
    Calls Try.prog 3 #[.int .u8 size, .slice A nv cv, .slice B nt ct] w fun e w' => e = .returned (.bool true) ∧ Below w.heap.size w w' := by
  have HAW := hide (awake18_any w)
  have HS := hide hS
  have HT := hide hT
  clear hS hT
  obtain ⟨n, hn, hn1, hn2⟩ : ∃ n : Nat, 1 + size % 64 = (n : Int) ∧ 1 ≤ n ∧ n ≤ 64 := ⟨(1 + size % 64).toNat, by omega, by omega, by omega⟩
  have HN := hide hn
  clear hn
  have HPN := hide (fun w => pnew_yes n 1 w (by omega) (by omega))
  have hsn : ∀ W, Calls Try.prog 9 #[.int .i64 n, .string ⟨#[]⟩] W (SMade W n ⟨#[]⟩) := fun W => subnew_yes n ⟨#[]⟩ W hn1 hn2 (by decide)
  have HSN := hide hsn
  clear hsn
  go_enter Try.func3, Try.ntmps3
  go_upto_region 4 with (go_at_call 7; refine HAW.out.mono ?_; rintro e w1 ⟨rfl, hb1⟩)
  rw [HN.out]
  have HB1 := hide hb1
  have hz1 := hb1.size
  clear hb1 HAW
  go_upto_region 7 with (first
    | (go_at_call 8; refine (HPN.out _).mono ?_; rintro e w2 ⟨rfl, kp2, b2⟩)
    | (go_at_call 9; refine (HSN.out _).mono ?_; rintro e w3 ⟨s, g, h, c, rfl, ks3, kg3, hs3, hg3, hh3, hsg, hsh, b3⟩))
  generalize hp : w1.heap.size = p at kp2 b2 hz1 ⊢
  have hp2 := blk_lt kp2
  have kp3 := blk_below kp2 b3
  have hz3 := b3.size
  have hps : p ≠ s := by omega
  have hpg : p ≠ g := by omega
  have hph : p ≠ h := by omega
  have hsl := blk_lt ks3
  have hgl := kg3.glt
  have hhl := kg3.lt
  have bw3 : Below w.heap.size w w3 := (HB1.out.trans ((by rw [← hp] at b2; exact b2 : Below w1.heap.size w1 w2).mono (by omega))).trans (b3.mono (by omega))
  have hb5 : Below w3.heap.size w3 ((w3.alloc (.cells #[.pointer (some ⟨p, 0, none⟩)] 25)).alloc (.cells #[.pointer (some ⟨s, 0, none⟩)] 28)) := ((Below.refl _ _).alloc (Nat.le_refl _) _).alloc (by simp) _
  have hbp : ((w3.alloc (.cells #[.pointer (some ⟨p, 0, none⟩)] 25)).alloc (.cells #[.pointer (some ⟨s, 0, none⟩)] 28)).heap[w3.heap.size]? = some (.cells #[.pointer (some ⟨p, 0, none⟩)] 25 (0, 0)) := old_alloc (heap_alloc_new w3 _) _
  have hbs : ((w3.alloc (.cells #[.pointer (some ⟨p, 0, none⟩)] 25)).alloc (.cells #[.pointer (some ⟨s, 0, none⟩)] 28)).heap[w3.heap.size + 1]? = some (.cells #[.pointer (some ⟨s, 0, none⟩)] 28 (0, 0)) := heap_alloc2_new w3 _ _
  have hcw : CW ((w3.alloc (.cells #[.pointer (some ⟨p, 0, none⟩)] 25)).alloc (.cells #[.pointer (some ⟨s, 0, none⟩)] 28)) p s g h c n (newPb n 1) { value := List.replicate n 0, vi := 0, vs := 0, is := false, came := 0, n := 0 } (sub0 n ⟨#[]⟩) :=
    ⟨blk_below kp3 hb5, blk_below ks3 hb5, kg3.below hb5, CInv.new hn1 hn2 _⟩
  have AP := hide (show CAp p s g h from ⟨hps, hpg, hph, hsg, hsh⟩)
  have D1 := hide (show w3.heap.size ≠ p ∧ w3.heap.size ≠ s ∧ w3.heap.size ≠ g ∧ w3.heap.size ≠ h from ⟨by omega, by omega, by omega, by omega⟩)
  have D2 := hide (show w3.heap.size + 1 ≠ p ∧ w3.heap.size + 1 ≠ s ∧ w3.heap.size + 1 ≠ g ∧ w3.heap.size + 1 ≠ h from ⟨by omega, by omega, by omega, by omega⟩)
  have B0 := hide (show w.heap.size ≤ p ∧ w.heap.size ≤ s ∧ w.heap.size ≤ g ∧ w.heap.size ≤ h from ⟨by omega, by omega, by omega, by omega⟩)
  have bw5 := bw3.trans (hb5.mono (by omega))
  have HCW := hide hcw; have HBP := hide hbp; have HBS := hide hbs; have BW5 := hide bw5
  clear hcw hbp hbs bw5 bw3 hb5 kp3 ks3 kg3 kp2 b2 b3 hps hpg hph hsg hsh hsl hgl hhl hp2 HPN HSN HB1
  generalize hw5 : (w3.alloc (.cells #[.pointer (some ⟨p, 0, none⟩)] 25)).alloc (.cells #[.pointer (some ⟨s, 0, none⟩)] 28) = w5 at HCW HBP HBS BW5 ⊢
  clear hw5
  generalize hq1 : w3.heap.size = q1 at HBP HBS D1 D2 hz3 hs3 hg3 hh3 ⊢
  clear hq1 hs3 hg3 hh3 hz3
  go_wp2_with fail
  go_loopw [45, 10] (fun i x wr => ∃ (k : Nat) (P : Pb) (G : Gl) (S : Sb), i = .int .i64 k ∧ k ≤ nv ∧ x = .string P.last ∧ P.ls = k ∧ CW wr p s g h c n P G S ∧ Quad p s g h w5 wr) (fun i _ _ => nv - (intOf i).toNat)
  case atStart => exact ⟨0, newPb n 1, _, _, rfl, Nat.zero_le _, rfl, rfl, HCW.out, Quad.refl _ _ _ _ _⟩
  case round =>
    obtain ⟨k, P, G, S, rfl, hk, rfl, hls, hcw, hq⟩ := hrel
    have HCWr := hide hcw; have HQ := hide hq; have HLS := hide hls
    have hbr := Quad.to BW5.out hq B0.out.1 B0.out.2.1 B0.out.2.2.1 B0.out.2.2.2 BW5.out.size
    have HBR := hide hbr
    clear hcw hq hls hbr
    by_cases hlt : k < nv
    · obtain ⟨a, v, rfl, hab, hac⟩ := (HS.out.below HBR.out) k hlt
      have hmk := make_u8 23 5 Try.underlying23 info_u8 n (by omega)
      have hmc := fun ty => made_copy n (by omega) v wr ty
      have HMC := hide hmc
      clear hmc
      go_upto_region 14 with (refine wpList_copy_ex rfl (.tmp 52) (.tmp 53) 23 9 rfl (.slice (some ⟨wr.heap.size, 0, none⟩) n n) (.string v) rfl rfl (R := fun w' => Below wr.heap.size wr w' ∧ wr.heap.size < w'.heap.size ∧ ∀ W' : World, W'.heap[wr.heap.size]? = w'.heap[wr.heap.size]? → (convert 23 9 (.slice (some ⟨wr.heap.size, 0, none⟩) n n)).run Try.prog W' = .ok (.string (ofL (padV n v.data.toList))) W') (HMC.out _) ?_; rintro w6 ⟨hb6, hlt6, hconv⟩)
      have hcv := hconv w6 rfl
      clear hconv hmk hac
      have hq6 := HQ.out.below hb6
      obtain ⟨V, hV⟩ : ∃ V, ofL (padV n v.data.toList) = V := ⟨_, rfl⟩
      have hVs : V.size = n := by rw [← hV, ofL_size, padV_len]
      rw [hV] at hcv
      obtain ⟨hcm, hinv⟩ := HCWr.out.inv.commit V hVs (by rw [HLS.out]; omega)
      have hkp := blk_below HCWr.out.pa hb6
      have hks := blk_below HCWr.out.sa hb6
      have hkg := HCWr.out.ga.below hb6
      have hpc := pcommit_any hkp HCWr.out.inv.ok.ls.1 HCWr.out.inv.ok.ls.2 V
      rw [hcm] at hpc
      have c1 : w6.cell? ⟨q1, 0, none⟩ = some (.pointer (some ⟨p, 0, none⟩)) := blk_cell (hq6.blk HBP.out D1.out.1 D1.out.2.1 D1.out.2.2.1 D1.out.2.2.2) 0
      have HPC := hide hpc; have HINV := hide hinv; have HKS := hide hks; have HKG := hide hkg; have HQ6 := hide hq6
      have hb06 := HBR.out.trans (hb6.mono HBR.out.size)
      obtain ⟨a2, x, rfl, hxb, hx0, hx1, hxc⟩ := HT.out k (by omega)
      obtain ⟨cnt, hcnt, hcnt9⟩ : ∃ cnt : Nat, x % 10 = cnt ∧ cnt ≤ 9 := ⟨(x % 10).toNat, by omega, by omega⟩
      have hx6 : w6.cell? (a2.add k) = some (.int .u8 x) := by rw [World.cell?_of_block (w := w) (hb06.block _ (by rw [block_add]; exact hxb)), hxc]
      have HX6 := hide (show a2.block < w.heap.size ∧ w6.cell? (a2.add k) = some (.int .u8 x) from ⟨hxb, hx6⟩)
      have hls1 : 0 < P.ls + 1 := by have := HCWr.out.inv.ok.ls; omega
      have HLS1 := hide hls1
      have HL1 := hide (show P.ls + 1 = ((k + 1 : Nat) : Int) by rw [HLS.out]; omega)
      clear hpc hinv hks hkg hkp hcm hb6 hq6 hb06 hxb hxc hx6 hls1
      go_upto_region 15 with fail
      go_wp2_with (first
        | (go_at_call 13; refine HPC.out.mono ?_; rintro e w7 ⟨rfl, k7, o7⟩; have hx7 : w7.cell? (a2.add k) = some (.int .u8 x) := (by rw [World.cell?_of_block (w := w6) (o7.block _ (World.block_lt_of_cell? _ _ HX6.out.2) (by rw [block_add]; have := HX6.out.1; have := B0.out.1; omega) (by rw [block_add]; have := HX6.out.1; have := B0.out.1; omega)), HX6.out.2]); have HQ7 := hide (HQ6.out.one o7 (.inl rfl)); have HCA := hide (comes_all (w := w7) ⟨k7, blk_only HKS.out o7 AP.out.ps.symm AP.out.ps.symm, HKG.out.keep o7 AP.out.pg.symm AP.out.pg.symm AP.out.ph.symm AP.out.ph.symm, HINV.out⟩ AP.out HLS1.out cnt (by omega) (HQ7.out.blk HBP.out D1.out.1 D1.out.2.1 D1.out.2.2.1 D1.out.2.2.2) (HQ7.out.blk HBS.out D2.out.1 D2.out.2.1 D2.out.2.2.1 D2.out.2.2.2) D1.out D2.out); clear k7 o7)
        | (go_at_call 10; refine HCA.out.mono ?_; rintro e w8 hpost; obtain ⟨rfl, G8, S8, hcw8, hq8⟩ := hpost))
      go_roundw
      case rel =>
        have e := steps_keeps { P with last := V, ls := P.ls + 1 } cnt
        refine ⟨k + 1, _, G8, S8, by go_num, by omega, ?_, ?_, hcw8, ⟨hq8.os.trans HQ7.out.os, hq8.tape.trans HQ7.out.tape, hq8.output.trans HQ7.out.output, Nat.le_trans HQ7.out.size hq8.size, fun j hj x1 x2 x3 x4 => (hq8.block j (Nat.lt_of_lt_of_le hj HQ7.out.size) x1 x2 x3 x4).trans (HQ7.out.block j hj x1 x2 x3 x4)⟩⟩
        · rw [e.2.1]
        · rw [e.1]; exact HL1.out
      case measure => simp [intOf]; omega
    · have hkn : k = nv := by omega
      subst hkn
      have hok := HCWr.out.inv.ok
      have hsz := HCWr.out.inv.sz
      have hnp := nParts_le P.size
      have hnn : nParts P.size = ((n : Int) + 15) / 16 := by rw [hsz]; exact nParts_yes (by omega) (by omega)
      obtain ⟨L, hL, hL4⟩ : ∃ L : Nat, P.left = L ∧ L ≤ 4 := by
        have h1 := hok.left
        by_cases h0 : P.left = 0
        · exact ⟨0, h0, by omega⟩
        · have := hok.sum h0
          have := hok.next
          exact ⟨P.left.toNat, by omega, by omega⟩
      obtain ⟨N, hN, hN4⟩ : ∃ N : Nat, ((n : Int) + 15) / 16 = N ∧ N ≤ 4 := ⟨(((n : Int) + 15) / 16).toNat, by omega, by omega⟩
      have hls0 : 0 < P.ls := by rw [HLS.out]; omega
      have hplf := pleft_any HCWr.out.pa
      rw [hL] at hplf
      have hca := comes_all HCWr.out AP.out hls0 L (by omega) (HQ.out.blk HBP.out D1.out.1 D1.out.2.1 D1.out.2.2.1 D1.out.2.2.2) (HQ.out.blk HBS.out D2.out.1 D2.out.2.1 D2.out.2.2.1 D2.out.2.2.2) D1.out D2.out
      have hP1 := steps_keeps P L
      have hP1l := steps_out P L (by omega)
      obtain ⟨P1, hP1e⟩ : ∃ P1, P.steps L = P1 := ⟨_, rfl⟩
      rw [hP1e] at hca hP1 hP1l
      have hP2 := steps_keeps P1 N
      have hP2w := steps_whole P1 (by omega) N (by omega) (by rw [hP1.2.2]; omega)
      obtain ⟨P2, hP2e⟩ : ∃ P2, P1.steps N = P2 := ⟨_, rfl⟩
      rw [hP2e] at hP2 hP2w
      have HPLF := hide hplf; have HCA := hide hca
      have HP1 := hide (show P1.ls = P.ls ∧ 0 < P1.ls from ⟨hP1.1, by rw [hP1.1]; exact hls0⟩)
      have HP2 := hide (show P2.left = 0 ∧ P2.ws = P2.ls ∧ P2.last = P.last ∧ P2.ls = (k : Int) from ⟨by rw [hP2w.1, hP1.2.2]; omega, by rw [hP2w.2.1, hP2.1], by rw [hP2.2.1, hP1.2.1], by rw [hP2.1, hP1.1, HLS.out]⟩)
      have HP2E := hide hP2e
      have c1 : wr.cell? ⟨q1, 0, none⟩ = some (.pointer (some ⟨p, 0, none⟩)) := blk_cell (HQ.out.blk HBP.out D1.out.1 D1.out.2.1 D1.out.2.2.1 D1.out.2.2.2) 0
      clear hplf hca hP1 hP1l hP2 hP2w hP1e hP2e hok hsz hnp hnn hls0 hL
      go_upto_region 20 with (first
        | (go_at_call 14; refine HPLF.out.mono ?_; rintro e w' ⟨rfl, rfl⟩)
        | (go_at_call 10; (with_reducible refine HCA.out.mono ?_); rintro e w8 hpost; obtain ⟨rfl, G8, S8, hcw8, hq8⟩ := hpost; have HQ8 := hide hq8; have HCB := hide (comes_all hcw8 AP.out HP1.out.2 N (by omega) (hq8.blk (HQ.out.blk HBP.out D1.out.1 D1.out.2.1 D1.out.2.2.1 D1.out.2.2.2) D1.out.1 D1.out.2.1 D1.out.2.2.1 D1.out.2.2.2) (hq8.blk (HQ.out.blk HBS.out D2.out.1 D2.out.2.1 D2.out.2.2.1 D2.out.2.2.2) D2.out.1 D2.out.2.1 D2.out.2.2.1 D2.out.2.2.2) D1.out D2.out); clear hcw8 hq8)
        | (go_at_call 10; (with_reducible refine HCB.out.mono ?_); rintro e w9 hpost; rw [HP2E.out] at hpost; obtain ⟨rfl, G9, S9, hcw9, hq9⟩ := hpost; have HQ9 := hide hq9; have HCW9 := hide hcw9; clear hcw9 hq9))
      obtain ⟨l1, l2, l3, l4⟩ := HCW9.out.inv.last HP2.out.1 (by rw [HP2.out.2.2.2]; omega) HP2.out.2.1
      rw [HP2.out.2.2.1] at l2
      rw [HP2.out.2.2.2] at l4
      have hqq : Quad p s g h w5 w9 := by
        have q1' := HQ.out; have q2' := HQ8.out; have q3' := HQ9.out
        have z1 := q1'.size; have z2 := q2'.size
        exact ⟨q3'.os.trans (q2'.os.trans q1'.os), q3'.tape.trans (q2'.tape.trans q1'.tape), q3'.output.trans (q2'.output.trans q1'.output), by have := q3'.size; omega, fun j hj x1 x2 x3 x4 => (q3'.block j (by omega) x1 x2 x3 x4).trans ((q2'.block j (by omega) x1 x2 x3 x4).trans (q1'.block j hj x1 x2 x3 x4))⟩
      have hb9 := Quad.to BW5.out hqq B0.out.1 B0.out.2.1 B0.out.2.2.1 B0.out.2.2.2 BW5.out.size
      have hbs9 := hqq.blk HBS.out D2.out.1 D2.out.2.1 D2.out.2.2.1 D2.out.2.2.2
      have c9 : w9.cell? ⟨q1 + 1, 0, none⟩ = some (.pointer (some ⟨s, 0, none⟩)) := blk_cell hbs9 0
      have hlt9 : Calls Try.prog 15 #[.pointer (some ⟨s, 0, none⟩)] w9 fun e w' => e = .returned (.bool true) ∧ SAt w' s g { front := P.last, fi := 1, fs := (k : Int), behind := ⟨#[]⟩, bi := 0, bs := 0, waits := false, fault := S9.fault } ∧ Only s s w9 w' := by
        have := slatch_yes HCW9.out.sa l1
        rw [l2, l3, l4] at this
        exact this
      have HLT9 := hide hlt9; have HB9 := hide hb9; have HBS9 := hide hbs9
      have hz9 := hb9.size
      clear hlt9 hb9 hbs9 hqq l1 l2 l3 l4 HCA HCB HQ8 HQ9 HPLF HCWr HQ
      go_upto_region 21 with (go_at_call 15; refine HLT9.out.mono ?_; rintro e w10 ⟨rfl, ks10, o10⟩)
      have c10 : w10.cell? ⟨q1 + 1, 0, none⟩ = some (.pointer (some ⟨s, 0, none⟩)) := blk_cell (blk_only HBS9.out o10 D2.out.2.1 D2.out.2.1) 0
      have hb10 : Below w.heap.size w w10 := Only.below HB9.out o10 B0.out.2.1 B0.out.2.1 hz9
      have HFR := hide (sfront_any ks10)
      have HB10 := hide hb10
      have hz10 := hb10.size
      have e1 := fun W => eqlV 1 (k : Int) W
      have hwrap : IntKind.u32.wrap (k : Int) = (k : Int) := by rw [IntKind.wrap_u32]; omega
      clear ks10 o10 hb10 HLT9 HB9 HBS9 c9
      go_upto_region 22 with (go_at_call 16; refine HFR.out.mono ?_; rintro e w11 ⟨rfl, b11⟩)
      have hz11 := b11.size
      have HB11 := hide (HB10.out.trans (b11.mono hz10))
      clear b11 HFR
      go_wp2_with (refine wpList_buildTo rfl 34 _ rfl _ rfl #[.int .u16 1, .int .u32 k] (by kernel_rfl) ?_)
      go_ret
      exact ⟨rfl, HB11.out.alloc (by omega) _⟩
end Go.Proofs.Ytdmohidkighajaa
