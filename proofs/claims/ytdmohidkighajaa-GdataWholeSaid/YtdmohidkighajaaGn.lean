/- The walk of GdataSubscribes. -/
import Derived.Test.YtdmohidkighajaaGm
namespace Go.Proofs.Ytdmohidkighajaa
open Go.RowKit
set_option linter.unusedVariables false
set_option linter.unusedSimpArgs false

/-- A frame's bounds. -/
structure FrB2 (f : Fr) : Prop where
  part : 0 ≤ f.part ∧ f.part ≤ 255
  parts : 0 ≤ f.parts ∧ f.parts ≤ 255
  vi : 0 ≤ f.vi ∧ f.vi ≤ 65535
  vs : 0 ≤ f.vs ∧ f.vs ≤ 4294967295
/-- Frames that came in. -/
def FrsIn2 (W : World) (A : Option Addr) (n : Nat) : Prop := ∀ i, i < n → ∃ (b o : Nat) (f : Fr), A = some ⟨b, o, none⟩ ∧ b < W.heap.size ∧ W.rangeAt b (o + i * 19) (frV f).toList ∧ FrB2 f
theorem FrsIn2.below {W w : World} {A : Option Addr} {n : Nat} (h : FrsIn2 W A n) (hb : Below W.heap.size W w) : FrsIn2 w A n := by
  intro i hi
  obtain ⟨b, o, f, e, hlt, hr, hf⟩ := h i hi
  refine ⟨b, o, f, e, Nat.lt_of_lt_of_le hlt hb.size, fun j v hj => ?_, hf⟩
  rw [World.cell?_of_block (w := W) (hb.block _ hlt)]
  exact hr j v hj

/-- Both subscribers in memory, apart. -/
structure SW (B : Nat) (w : World) (p g h c r : Nat) (s : Sb) (G : Gl) (R : Rg) : Prop where
  sa : SAt w p g s
  ga : GAt w g h c G
  ra : RAt w r R
  tl : R.tl = rsT s
  al : Alike G R
  b0 : B ≤ R.hb r
  bp : R.hb r ≠ p
  bg : R.hb r ≠ g
  bh : R.hb r ≠ h
structure Apart (B p g h r : Nat) : Prop where
  p0 : B ≤ p
  g0 : B ≤ g
  h0 : B ≤ h
  r0 : B ≤ r
  pg : p ≠ g
  ph : p ≠ h
  rp : r ≠ p
  rg : r ≠ g
  rh : r ≠ h
theorem SW.below {B p g h c r : Nat} {w w' : World} {s : Sb} {G : Gl} {R : Rg} (k : SW B w p g h c r s G R) (b : Below w.heap.size w w') : SW B w' p g h c r s G R :=
  { k with sa := blk_below k.sa b, ga := k.ga.below b, ra := k.ra.keep b }

theorem RAt.three {w w' : World} {p g h r : Nat} {R : Rg} (k : RAt w r R) (t : Three p g h w w') (h1 : r ≠ p) (h2 : r ≠ g) (h3 : r ≠ h) (h4 : R.hb r ≠ p) (h5 : R.hb r ≠ g) (h6 : R.hb r ≠ h) : RAt w' r R := by
  refine ⟨(t.block r k.lt h1 h2 h3).trans k.blk, k.cap, fun a ha => Nat.lt_of_lt_of_le (k.bl a ha) t.size, fun hne => ?_⟩
  obtain ⟨h', cur, e, hn, hb, ht⟩ := k.row hne
  have : R.hb r = h' := by unfold Rg.hb; rw [e]
  rw [this] at h4 h5 h6
  exact ⟨h', cur, e, hn, (t.block h' (Array.getElem?_eq_some_iff.1 hb).1 h4 h5 h6).trans hb, ht⟩

theorem RAt.only18 {w w' : World} {r g h : Nat} {R : Rg} (k : RAt w r R) (o : Only g h w w') (h1 : r ≠ g) (h2 : r ≠ h) (h3 : R.hb r ≠ g) (h4 : R.hb r ≠ h) : RAt w' r R :=
  k.three (p := g) ⟨o.os, o.tape, o.output, o.size, fun k hk a b c => o.block k hk b c⟩ h1 h1 h2 h3 h3 h4

/-- Behind both Puts. -/
theorem SW.puts {B p g h c r : Nat} {w w1 w2 : World} {s s' : Sb} {G G' : Gl} {R R' : Rg} (k : SW B w p g h c r s G R) (ap : Apart B p g h r) (hB : B ≤ w.heap.size) (hs : SAt w1 p g s') (hg : GAt w1 g h c G') (t : Three p g h w w1)
    (hp : RPost w1 w2 r R R') (ht : R'.tl = rsT s') (hal : Alike G' R') : ∃ R2, SW B w2 p g h c r s' G' R2 ∧ Below B w w2 := by
  obtain ⟨b, cp, hr, o2, hb⟩ := hp
  have hgl := hg.glt
  have hhl := hg.lt
  have hpl := blk_lt hs
  have hz := t.size
  have key : ({ R' with base := b, cap := cp } : Rg).hb r = R.hb r ∨ w1.heap.size ≤ ({ R' with base := b, cap := cp } : Rg).hb r := by
    rcases hb with ⟨h1, -⟩ | ⟨g', h1, h2⟩
    · left; unfold Rg.hb; rw [h1]
    · right; unfold Rg.hb; rw [h1]; exact h2
  refine ⟨{ R' with base := b, cap := cp }, ⟨blk_only hs o2 ap.rp.symm k.bp.symm, hg.keep o2 ap.rg.symm k.bg.symm ap.rh.symm k.bh.symm, hr, ht, { hal with }, ?_, ?_, ?_, ?_⟩, ?_⟩
  · rcases key with e | e
    · rw [e]; exact k.b0
    · omega
  · rcases key with e | e
    · rw [e]; exact k.bp
    · omega
  · rcases key with e | e
    · rw [e]; exact k.bg
    · omega
  · rcases key with e | e
    · rw [e]; exact k.bh
    · omega
  · exact Only.below (Three.to (Below.refl B w) t ap.p0 ap.g0 ap.h0 hB) o2 ap.r0 k.b0 (by omega)

set_option maxHeartbeats 1000000 in
set_option maxRecDepth 20000 in
theorem gsubs_long (size : Int) (first : ByteArray) (A : Option Addr) (nl cl : Nat) (w : World) (hbig : 100 < first.size ∨ 80 < nl) :
    Calls Try.prog 4 #[.int .i64 size, .string first, .slice A nl cl] w fun e w' => e = .returned (.bool true) ∧ Below w.heap.size w w' := by
  have HAW := hide (awake18_any w)
  go_enter Try.func4, Try.ntmps4
  go_upto_region 3 with (go_at_call 7; refine HAW.out.mono ?_; rintro e w1 ⟨rfl, hb1⟩)
  have HB1 := hide hb1
  clear hb1
  by_cases h1 : 100 < first.size
  · go_wp2_with fail
    go_ret
    exact ⟨rfl, HB1.out⟩
  · have h2 : 80 < nl := by omega
    go_wp2_with fail
    go_ret
    exact ⟨rfl, HB1.out⟩

set_option maxHeartbeats 1000000 in
set_option maxRecDepth 20000 in
theorem gsubs_bad (size : Int) (first : ByteArray) (hs : ¬ (1 ≤ size ∧ size ≤ 64)) (A : Option Addr) (nl cl : Nat) (w : World) (h1 : first.size ≤ 100) (h2 : nl ≤ 80) :
    Calls Try.prog 4 #[.int .i64 size, .string first, .slice A nl cl] w fun e w' => e = .returned (.bool true) ∧ Below w.heap.size w w' := by
  have HAW := hide (awake18_any w)
  have HN := hide (fun w => subnew_no size first w hs)
  have hput := fun w => sput_nil w { zFr with kind := 4 }
  have HP := hide hput
  have HF := hide (fun w => sfront_nil w)
  clear hput
  go_enter Try.func4, Try.ntmps4
  go_upto_region 6 with (first
    | (go_at_call 7; refine HAW.out.mono ?_; rintro e w1 ⟨rfl, hb1⟩; have HB1 := hide hb1; clear hb1)
    | (go_at_call 9; refine (HN.out _).mono ?_; rintro e w' ⟨rfl, rfl⟩))
  by_cases c1 : size < 1
  · go_wp2_with (first
      | (refine wpList_buildTo rfl 36 _ rfl _ rfl (frV { zFr with kind := 4 }) (by kernel_rfl) ?_)
      | (go_at_call 12; refine (HP.out _).mono ?_; rintro e w2 ⟨rfl, hb2⟩; have HB2 := hide hb2; clear hb2)
      | (go_at_call 16; refine (HF.out _).mono ?_; rintro e w3 ⟨rfl, hb3⟩; have HB3 := hide hb3; clear hb3)
      | (go_at_call 15; refine (slatch_nil _).mono ?_; rintro e w' ⟨rfl, rfl⟩)
      | (go_at_call 17; refine (sfault_nil _).mono ?_; rintro e w' ⟨rfl, rfl⟩))
    go_ret
    have z1 := HB1.out.size
    have z2 := HB2.out.size
    have z3 := HB3.out.size
    exact ⟨rfl, ((HB1.out.trans (HB2.out.mono z1)).trans (HB3.out.mono (by omega))).alloc (by omega) _⟩
  · have c2 : 64 < size := by omega
    go_wp2_with (first
      | (refine wpList_buildTo rfl 36 _ rfl _ rfl (frV { zFr with kind := 4 }) (by kernel_rfl) ?_)
      | (go_at_call 12; refine (HP.out _).mono ?_; rintro e w2 ⟨rfl, hb2⟩; have HB2 := hide hb2; clear hb2)
      | (go_at_call 16; refine (HF.out _).mono ?_; rintro e w3 ⟨rfl, hb3⟩; have HB3 := hide hb3; clear hb3)
      | (go_at_call 15; refine (slatch_nil _).mono ?_; rintro e w' ⟨rfl, rfl⟩)
      | (go_at_call 17; refine (sfault_nil _).mono ?_; rintro e w' ⟨rfl, rfl⟩))
    go_ret
    have z1 := HB1.out.size
    have z2 := HB2.out.size
    have z3 := HB3.out.size
    exact ⟨rfl, ((HB1.out.trans (HB2.out.mono z1)).trans (HB3.out.mono (by omega))).alloc (by omega) _⟩

set_option maxHeartbeats 8000000 in
set_option maxRecDepth 20000 in
theorem gsubs_any (n : Nat) (first : ByteArray) (hn1 : 1 ≤ n) (hn2 : n ≤ 64) (A : Option Addr) (nl cl : Nat) (w : World) (h1 : first.size ≤ 100) (h2 : nl ≤ 80) (hF : FrsIn2 w A nl) :
    Calls Try.prog 4 #[.int .i64 n, .string first, .slice A nl cl] w fun e w' => e = .returned (.bool true) ∧ Below w.heap.size w w' := by
  have HAW := hide (awake18_any w)
  have HN := hide (fun w => subnew_yes n first w hn1 hn2 (by omega))
  have HR := hide (fun w => rsubnew_any n first w hn1 hn2 (by omega))
  have HF := hide hF
  clear hF
  go_enter Try.func4, Try.ntmps4
  go_upto_region 6 with (first
    | (go_at_call 7; refine HAW.out.mono ?_; rintro e w1 ⟨rfl, hb1⟩; have HB1 := hide hb1; clear hb1)
    | (go_at_call 9; refine (HN.out _).mono ?_; rintro e w2 ⟨p, g, h, c, rfl, ks, kg, hp, hg, hh, hpg, hph, hb2⟩))
  have hz1 := HB1.out.size
  have HB2 := hide (HB1.out.trans (hb2.mono hz1))
  have KS := hide ks; have KG := hide kg
  have hpl := blk_lt ks
  have hgl := kg.glt
  have hhl := kg.lt
  clear ks kg hb2 HB1 HAW HN
  go_upto_region 11 with (go_at_call 18; refine (HR.out _).mono ?_; rintro e w3 ⟨r, rfl, kr, hr, hb3⟩)
  have hz2 := HB2.out.size
  have hz3 := hb3.size
  have hbr0 : (newRS n (sub0 n first)).hb r = r := rfl
  have hsw : SW w.heap.size w3 p g h c r (sub0 n first) { value := List.replicate n 0, vi := 0, vs := 0, is := false, came := 0, n := 0 } (newRS n (sub0 n first)) :=
    ⟨blk_below KS.out hb3, KG.out.below hb3, kr, rfl, { Alike.fresh (v := List.replicate n 0) (n := n) (by simp) hn1 hn2 with }, by rw [hbr0]; omega, by rw [hbr0]; omega, by rw [hbr0]; omega, by rw [hbr0]; omega⟩
  have hap : Apart w.heap.size p g h r := ⟨by omega, by omega, by omega, by omega, hpg, hph, by omega, by omega, by omega⟩
  have HSW := hide hsw; have HAP := hide hap
  have HB3 := hide (HB2.out.trans (hb3.mono hz2))
  clear hsw hap hb3 kr KS KG HB2 HR hbr0 hp hg hh hpg hph hr
  go_wp2_with fail
  go_loopw [83] (fun i wr => ∃ (k : Nat) (s : Sb) (G : Gl) (R : Rg), i = .int .i64 k ∧ k ≤ nl ∧ Below w.heap.size w wr ∧ SW w.heap.size wr p g h c r s G R) (fun i _ => nl - (intOf i).toNat)
  case atStart => exact ⟨0, _, _, _, rfl, Nat.zero_le _, HB3.out, HSW.out⟩
  case round =>
    obtain ⟨k, s, G, R, rfl, hk, hbr, hsw⟩ := hrel
    have HBR := hide hbr
    have HSW := hide hsw
    clear hbr hsw HB3
    by_cases hlt : k < nl
    · obtain ⟨b, o, f, rfl, hbl, hrf, hfb⟩ := (HF.out.below HBR.out) k hlt
      have HRF := hide hrf
      have HFB := hide hfb
      clear hrf hfb
      go_upto_region 14 with (first
        | (refine wpList_load_mid rfl 52 _ rfl b (o + k * 19) rfl _ _ HRF.out Try.underlying52 rfl (by kernel_rfl) ?_)
        | (refine wpList_store_new rfl 52 _ _ rfl wr 52 _ (frV f) rfl rfl (by kernel_rfl) rfl (frV_one f) ?_))
      have hb4 : Below wr.heap.size wr (wr.alloc (.cells (frV f) 52)) := (Below.refl _ _).alloc (Nat.le_refl _) _
      have hbx : (wr.alloc (.cells (frV f) 52)).heap[wr.heap.size]? = some (.cells (frV f) 52 (0, 0)) := heap_alloc_new wr _
      have c13 : (wr.alloc (.cells (frV f) 52)).cell? ⟨wr.heap.size, 18, none⟩ = some (.string f.bytes) := blk_cell hbx 18
      have c0 : (wr.alloc (.cells (frV f) 52)).cell? ⟨wr.heap.size, 0, none⟩ = some (.int .i64 f.kind) := blk_cell hbx 0
      have HSW4 := hide (HSW.out.below hb4)
      have HB4 := hide (HBR.out.trans (hb4.mono HBR.out.size))
      have HBX := hide hbx
      have hxl := blk_lt hbx
      have hsep : wr.heap.size ≠ p ∧ wr.heap.size ≠ g ∧ wr.heap.size ≠ h ∧ wr.heap.size ≠ r ∧ wr.heap.size ≠ R.hb r := ⟨by have := blk_lt HSW.out.sa; omega, by have := HSW.out.ga.glt; omega, by have := HSW.out.ga.lt; omega, by have := HSW.out.ra.lt; omega, by have := HSW.out.ra.hbl; omega⟩
      have hxB : w.heap.size ≤ wr.heap.size := HBR.out.size
      have HSEP := hide hsep
      clear hb4 hbx hsep HSW HBR HRF
      generalize wr.alloc (.cells (frV f) 52) = w4 at c13 c0 HSW4 HB4 HBX hxl ⊢
      generalize wr.heap.size = x at c13 c0 HBX hxl HSEP hxB ⊢
      by_cases h40 : 40 < f.bytes.size
      · go_wp2_with fail
        go_ret
        exact ⟨rfl, HB4.out⟩
      · go_upto_if 95 with fail
        go_cut [] (fun wc => ∃ (s : Sb) (G : Gl) (R : Rg), Below w.heap.size w wc ∧ SW w.heap.size wc p g h c r s G R)
        case first =>
          by_cases hk0 : f.kind = 0
          · have hk0b : (f.kind == 0) = true := by simpa using hk0
            clear hk0
            cases hw : s.waits
            · have H1 := hide (slatch_no HSW4.out.sa hw)
              have H2 := hide (rslatch_no HSW4.out.ra HSW4.out.tl hw)
              go_wp2_with (first
                | (go_at_call 15; refine H1.out.mono ?_; rintro e w' ⟨rfl, rfl⟩)
                | (go_at_call 19; refine H2.out.mono ?_; rintro e w' ⟨rfl, rfl⟩))
              go_meet
              case rel => exact ⟨s, G, R, HB4.out, HSW4.out⟩
            · have H1 := hide (slatch_yes HSW4.out.sa hw)
              have H2 := hide (fun W (hW : RAt W r R) => rslatch_yes hW HSW4.out.tl hw)
              go_wp2_with (first
                | (go_at_call 15; refine H1.out.mono ?_; rintro e w5 ⟨rfl, k5, o5⟩)
                | (go_at_call 19; refine (H2.out _ (HSW4.out.ra.only18 o5 HAP.out.rp HAP.out.rp HSW4.out.bp HSW4.out.bp)).mono ?_; rintro e w6 ⟨rfl, k6, o6⟩))
              go_meet
              case rel =>
                have hz4 := HB4.out.size
                have hz5 := o5.size
                have ap := HAP.out
                have b5 : Below w.heap.size w w5 := Only.below HB4.out o5 ap.p0 ap.p0 hz4
                exact ⟨s.latched, G, { R with tl := rsT s.latched }, Only.below b5 o6 ap.r0 ap.r0 (by omega),
                  ⟨blk_only k5 o6 ap.rp.symm ap.rp.symm, (HSW4.out.ga.keep o5 ap.pg.symm ap.pg.symm ap.ph.symm ap.ph.symm).keep o6 ap.rg.symm ap.rg.symm ap.rh.symm ap.rh.symm, k6, rfl, { HSW4.out.al with }, HSW4.out.b0, HSW4.out.bp, HSW4.out.bg, HSW4.out.bh⟩⟩
          · have hk0b : (f.kind == 0) = false := by simpa using hk0
            clear hk0
            obtain ⟨a0, b0, e0, G', R', hput, hrput, hal⟩ := HSW4.out.al.put f HFB.out.vi HFB.out.vs
            have hok : FrOk f := ⟨HFB.out.part, HFB.out.parts, by omega⟩
            have hsp := sput_any HSW4.out.sa HSW4.out.ga HSW4.out.al.ok HAP.out.pg HAP.out.ph f hok hput
            have hrp : ∀ W, RAt W r R → Calls Try.prog 20 #[.pointer (some ⟨r, 0, none⟩), .agg (frV f)] W fun e w' => e = .returned (.tuple #[.bool b0, .int .i64 e0]) ∧ RPost W w' r R { R' with tl := rsT (s.took a0 b0 e0 f) } := fun W hW => rsput_any hW HSW4.out.tl HSW4.out.al f hok HFB.out.vi HFB.out.vs hrput
            have HSP := hide hsp; have HRP := hide hrp; have HAL := hide hal
            clear hput hrput hal hok hsp hrp
            have hbx4 := HBX.out
            go_upto_region 20 with (first
              | (refine wpList_load_row rfl 36 _ rfl _ rfl 52 (frV f) (0, 0) _ hbx4 Try.underlying36 rfl (by kernel_rfl) ?_)
              | (go_at_call 12; refine HSP.out.mono ?_; rintro e w5 ⟨rfl, k5, kg5, t5⟩))
            have hx5 : w5.heap[x]? = some (.cells (frV f) 52 (0, 0)) := (t5.block x hxl HSEP.out.1 HSEP.out.2.1 HSEP.out.2.2.1).trans hbx4
            have ap := HAP.out
            have kr5 : RAt w5 r R := HSW4.out.ra.three t5 ap.rp ap.rg ap.rh HSW4.out.bp HSW4.out.bg HSW4.out.bh
            have K5 := hide k5; have KG5 := hide kg5; have T5 := hide t5; have HRP5 := hide (HRP.out w5 kr5)
            clear k5 kg5 t5 ap kr5 hbx4 HSP HRP
            go_wp2_with (first
              | (refine wpList_load_row rfl 36 _ rfl _ rfl 52 (frV f) (0, 0) _ hx5 Try.underlying36 rfl (by kernel_rfl) ?_)
              | (go_at_call 20; refine HRP5.out.mono ?_; rintro e w6 ⟨rfl, hpost⟩))
            go_meet
            case rel =>
              obtain ⟨R2, h1, h2⟩ := HSW4.out.puts HAP.out HB4.out.size K5.out KG5.out T5.out hpost rfl { HAL.out with }
              exact ⟨_, _, R2, HB4.out.trans (h2.mono (Nat.le_refl _)), h1⟩
        case rest =>
          obtain ⟨s2, G2, R2, hbr5, hsw5⟩ := hcut
          obtain ⟨w5, rfl⟩ : ∃ w5 : World, w5 = wc := ⟨_, rfl⟩
          clear HSW4 HB4 HBX HSEP HFB c0 c13
          have HSW5 := hide hsw5; have HB5 := hide hbr5
          clear hsw5 hbr5
          have HFR := hide (sfront_any HSW5.out.sa)
          go_upto_region 24 with (go_at_call 16; refine HFR.out.mono ?_; rintro e w6 ⟨rfl, b6⟩)
          have hb7 : Below w6.heap.size w6 (w6.alloc (.cells #[.int .u16 s2.fi, .int .u32 s2.fs] 34)) := (Below.refl _ _).alloc (Nat.le_refl _) _
          have hu7 : (w6.alloc (.cells #[.int .u16 s2.fi, .int .u32 s2.fs] 34)).heap[w6.heap.size]? = some (.cells #[.int .u16 s2.fi, .int .u32 s2.fs] 34 (0, 0)) := heap_alloc_new w6 _
          have b7 := b6.trans (hb7.mono b6.size)
          have hsw7 := HSW5.out.below b7
          have HSW7 := hide hsw7; have HU7 := hide hu7; have HB7 := hide (HB5.out.trans (b7.mono HB5.out.size))
          clear b6 hb7 hu7 b7 hsw7 HFR HSW5 HB5
          generalize hw7 : w6.alloc (.cells #[.int .u16 s2.fi, .int .u32 s2.fs] 34) = w7 at HSW7 HU7 HB7 ⊢
          clear hw7
          generalize hu : w6.heap.size = u at HU7 ⊢
          clear hu
          have HWT := hide (swaits_any HSW7.out.sa)
          go_upto_region 25 with (go_at_call 21; refine HWT.out.mono ?_; rintro e w8 ⟨rfl, b8⟩)
          have hb9 : Below w8.heap.size w8 (w8.alloc (.cells #[.int .u16 s2.bi, .int .u32 s2.bs] 34)) := (Below.refl _ _).alloc (Nat.le_refl _) _
          have hv9 : (w8.alloc (.cells #[.int .u16 s2.bi, .int .u32 s2.bs] 34)).heap[w8.heap.size]? = some (.cells #[.int .u16 s2.bi, .int .u32 s2.bs] 34 (0, 0)) := heap_alloc_new w8 _
          have b9 := b8.trans (hb9.mono b8.size)
          have hu9 := blk_below HU7.out b9
          have HSW9 := hide (HSW7.out.below b9); have HB9 := hide (HB7.out.trans (b9.mono HB7.out.size))
          clear b8 hb9 b9 HWT HSW7 HB7 HU7
          generalize hw9 : w8.alloc (.cells #[.int .u16 s2.bi, .int .u32 s2.bs] 34) = w9 at HSW9 HB9 hu9 hv9 ⊢
          clear hw9
          generalize hv : w8.heap.size = v at hv9 ⊢
          clear hv
          have u0 : w9.cell? ⟨u, 0, none⟩ = some (.int .u16 s2.fi) := blk_cell hu9 0
          have u1 : w9.cell? ⟨u, 1, none⟩ = some (.int .u32 s2.fs) := blk_cell hu9 1
          have v0 : w9.cell? ⟨v, 0, none⟩ = some (.int .u16 s2.bi) := blk_cell hv9 0
          have v1 : w9.cell? ⟨v, 1, none⟩ = some (.int .u32 s2.bs) := blk_cell hv9 1
          have hul := blk_lt hu9
          have hvl := blk_lt hv9
          have r5 : w9.cell? ⟨r, 5, none⟩ = some (.string s2.front) := by rw [HSW9.out.ra.c 5, HSW9.out.tl]; rfl
          have r6 : w9.cell? ⟨r, 6, none⟩ = some (.string s2.behind) := by rw [HSW9.out.ra.c 6, HSW9.out.tl]; rfl
          have r7 : w9.cell? ⟨r, 7, none⟩ = some (.int .u16 s2.fi) := by rw [HSW9.out.ra.c 7, HSW9.out.tl]; rfl
          have r8 : w9.cell? ⟨r, 8, none⟩ = some (.int .u32 s2.fs) := by rw [HSW9.out.ra.c 8, HSW9.out.tl]; rfl
          have r9 : w9.cell? ⟨r, 9, none⟩ = some (.int .u16 s2.bi) := by rw [HSW9.out.ra.c 9, HSW9.out.tl]; rfl
          have r10 : w9.cell? ⟨r, 10, none⟩ = some (.int .u32 s2.bs) := by rw [HSW9.out.ra.c 10, HSW9.out.tl]; rfl
          have r11 : w9.cell? ⟨r, 11, none⟩ = some (.bool s2.waits) := by rw [HSW9.out.ra.c 11, HSW9.out.tl]; rfl
          have r12 : w9.cell? ⟨r, 12, none⟩ = some (.bool s2.fault) := by rw [HSW9.out.ra.c 12, HSW9.out.tl]; rfl
          have hrl := HSW9.out.ra.lt
          have ne1 := fun W => neqV2 s2.fi s2.fs W
          have ne2 := fun W => neqV2 s2.bi s2.bs W
          have HFT := hide (fun (W : World) (hW : Below w9.heap.size w9 W) => sfault_any (blk_below HSW9.out.sa hW))
          clear hu9 hv9
          go_region_held3 (fun w' => (∀ b o, b < w9.heap.size → w'.cell? ⟨b, o, none⟩ = w9.cell? ⟨b, o, none⟩) ∧ Below w9.heap.size w9 w')
            (first | exact BS.drew _ | assumption)
            ((go_at_call 17; refine (HFT.out _ (And.right (by assumption))).mono ?_; rintro e w' ⟨rfl, rfl⟩))
          obtain ⟨_, hB⟩ := ‹(∀ b o, b < w9.heap.size → _) ∧ Below w9.heap.size w9 _›
          have HSW10 := hide (HSW9.out.below hB)
          have HB10 := hide (HB9.out.trans (hB.mono HB9.out.size))
          clear hB ne1 ne2
          go_wp2_with fail
          go_roundw
          case rel => exact ⟨k + 1, s2, G2, R2, by go_num, by omega, HB10.out, HSW10.out⟩
          case measure => simp [intOf]; omega
    · go_wp2_with fail
      go_ret
      exact ⟨rfl, HBR.out⟩
end Go.Proofs.Ytdmohidkighajaa
