/- The walk of PartsRuns: a size that may be. -/
import Derived.Test.YtoekemceminciaaPr
import Derived.Deep.WholeRow
namespace Go.Proofs.Ytoekemceminciaa
open Go.RowKit
set_option linter.unusedVariables false
set_option linter.unusedSimpArgs false

theorem wpList_store_new {P : Program} {ops : Array Oper} {rest : List Oper} {o : Oper} {a : Act} {Q : Exit → Act → World → Prop} (hgd : o.guard = none) (ty : TypeId) (x y : Operand) (ho : o.op = .store ty x y) (W : World) (t : TypeId) (zs cs : Array Value)
    (hx : a.eval x = .pointer (some ⟨W.heap.size, 0, none⟩)) (hy : a.eval y = .agg cs) (hi : (P.info? ty).map (·.size) = some cs.size) (hs : zs.size = cs.size) (h1 : ∀ v ∈ cs.toList, v.oneCell' = true)
    (h : wpList P ops Q rest (a.put o.dst undef) (W.alloc (.cells cs t))) : wpList P ops Q (o :: rest) a (W.alloc (.cells zs t)) :=
  wpList_store_row hgd ty x y ho W.heap.size cs hx hy t zs (heap_alloc_new W _) hi hs (by rw [Array.all_eq_true_iff_forall_mem]; exact fun v hv => h1 v (by simpa using hv)) (by rw [World.setRow_alloc_new]; exact h)

theorem Both.put {B : Nat} {w w' : World} {g h c r n : Nat} {s s' : Gl} {R : Rg} (k : Both B w g h c r n s R) (hg : GAt w' g h c s') (o : Only g h w w') : RAt w' r R := k.ra.only o k.rg k.rh k.bg k.bh
theorem neqV (a b : Int) (W : World) : (binOp .neq 50 (.agg #[.int .u16 a, .int .u32 b]) (.agg #[.int .u16 a, .int .u32 b])).run Try.prog W = .ok (.bool false) W := by
  rw [run_neq_struct, eqV 9998 W a a b b]
  simp

set_option maxHeartbeats 4000000 in
set_option maxRecDepth 20000 in
theorem pruns_any (n : Nat) (hn1 : 1 ≤ n) (hn2 : n ≤ 64) (A B : Option Addr) (nl cl nc cc : Nat) (w : World) (h1 : nl ≤ 60) (h2 : nc ≤ 60) (hF : FrsIn w A nl) (hT : Turns w B nc) :
    Calls Try.prog 8 #[.int .i64 n, .slice A nl cl, .slice B nc cc] w fun e w' => e = .returned (.bool true) ∧ Below w.heap.size w w' := by
  have HAW := hide (awake_any w)
  have HF := hide hF
  have HT := hide hT
  clear hF hT
  go_enter Try.func8, Try.ntmps8
  go_upto_region 5 with (go_at_call 23; refine HAW.out.mono ?_; rintro e w1 ⟨rfl, hb1⟩)
  have HB1 := hide hb1
  have HGN := hide (gnew_yes w1 n hn1 hn2)
  clear hb1
  go_upto_region 6 with (go_at_call 26; refine HGN.out.mono ?_; rintro e w2 ⟨gg, gh, gc, rfl, hk2, hgg, hgh, hb2⟩)
  have HB2 := hide (HB1.out.trans (hb2.mono HB1.out.size))
  have HK2 := hide hk2
  have hg2 := hk2.glt
  have hh2 := hk2.lt
  have hz1 := HB1.out.size
  clear hb2 hk2
  go_upto_region 10 with (refine wpList_buildTo rfl 70 _ rfl _ rfl #[.int .i64 n, .bool false, .int .u16 0, .int .u32 0, .slice none 0 0] (by kernel_rfl) ?_)
  have hb3 : Below w2.heap.size w2 (w2.alloc (.cells #[.int .i64 n, .bool false, .int .u16 0, .int .u32 0, .slice none 0 0] 70)) := (Below.refl _ _).alloc (Nat.le_refl _) _
  have hBoth : Both w.heap.size (w2.alloc (.cells #[.int .i64 n, .bool false, .int .u16 0, .int .u32 0, .slice none 0 0] 70)) gg gh gc w2.heap.size n { value := List.replicate n 0, vi := 0, vs := 0, is := false, came := 0, n := 0 } (newR n) :=
    ⟨HK2.out.below hb3, ⟨heap_alloc_new w2 _, Nat.le_refl _, fun a h => (by cases h), fun h => absurd rfl h⟩, Alike.fresh (by simp) hn1 hn2, rfl, by omega, by omega, by have := HB2.out.size; omega, by have := HB2.out.size; exact this, by omega, by omega, by show w2.heap.size ≠ gg; omega, by show w2.heap.size ≠ gh; omega⟩
  have HBoth := hide hBoth
  have HB3 := hide (HB2.out.trans (hb3.mono HB2.out.size))
  clear hb3 hBoth HB1 HGN HK2 HAW
  generalize hr0 : w2.heap.size = r0 at HBoth
  generalize w2.alloc (.cells #[.int .i64 n, .bool false, .int .u16 0, .int .u32 0, .slice none 0 0] 70) = w3 at HBoth HB3 ⊢
  clear HB2 hr0 hg2 hh2 hz1 hgg hgh
  go_wp2_with fail
  go_loopw [65, 11] (fun i x wr => ∃ (k r : Nat) (s : Gl) (R : Rg), i = .int .i64 k ∧ k ≤ nl ∧ x = .pointer (some ⟨r, 0, none⟩) ∧ Below w.heap.size w wr ∧ Both w.heap.size wr gg gh gc r n s R) (fun i _ _ => nl - (intOf i).toNat)
  case atStart => exact ⟨0, r0, _, _, rfl, Nat.zero_le _, rfl, HB3.out, HBoth.out⟩
  case round =>
    obtain ⟨k, r, s, R, rfl, hk, rfl, hbr, hboth⟩ := hrel
    have HBR := hide hbr
    have HBO := hide hboth
    clear hbr hboth HBoth HB3
    by_cases hlt : k < nl
    · obtain ⟨b, o, f, rfl, hbl, hr, hfb⟩ := (HF.out.below HBR.out) k hlt
      have HR := hide hr
      have HFB := hide hfb
      clear hr hfb
      go_upto_region 13 with (first
        | (refine wpList_load_mid rfl 52 _ rfl b (o + k * 19) rfl _ _ HR.out Try.underlying52 rfl (by kernel_rfl) ?_)
        | (refine wpList_store_new rfl 52 _ _ rfl wr 52 _ (frV f) rfl rfl (by kernel_rfl) rfl (frV_one f) ?_))
      have FB := fbox wr f
      have hb4 : Below wr.heap.size wr (wr.alloc (.cells (frV f) 52)) := FB.bw
      have hbx : (wr.alloc (.cells (frV f) 52)).heap[wr.heap.size]? = some (.cells (frV f) 52 (0, 0)) := FB.blk
      have c18 : (wr.alloc (.cells (frV f) 52)).cell? ⟨wr.heap.size, 18, none⟩ = some (.string f.bytes) := blk_cell hbx 18
      have HBO4 := hide (HBO.out.below hb4)
      have HB4 := hide (HBR.out.trans (hb4.mono HBR.out.size))
      have HBX := hide hbx
      have hpl : wr.heap.size < (wr.alloc (.cells (frV f) 52)).heap.size := by simp
      have hgp : wr.heap.size ≠ gg ∧ wr.heap.size ≠ gh ∧ wr.heap.size ≠ r ∧ wr.heap.size ≠ R.hb r := ⟨by have := HBO.out.ga.glt; omega, by have := HBO.out.ga.lt; omega, by have := HBO.out.ra.lt; omega, by have := HBO.out.ra.hbl; omega⟩
      have hpB : w.heap.size ≤ wr.heap.size := HBR.out.size
      have HGP := hide hgp
      clear hbx hgp FB hb4 HBO HBR HR
      generalize wr.alloc (.cells (frV f) 52) = w4 at c18 HBO4 HB4 HBX hpl ⊢
      generalize wr.heap.size = p at c18 HBX hpl HGP hpB ⊢
      by_cases h40 : 40 < f.bytes.size
      · go_wp2_with fail
        go_ret
        exact ⟨rfl, HB4.out⟩
      · go_wp2_with fail
        go_loopw [76, 11] (fun i x wq => ∃ (j r : Nat) (s : Gl) (R : Rg), i = .int .i64 j ∧ j ≤ nc ∧ x = .pointer (some ⟨r, 0, none⟩) ∧ Below w.heap.size w wq ∧ Both w.heap.size wq gg gh gc r n s R ∧ wq.heap[p]? = some (.cells (frV f) 52 (0, 0)) ∧ p ≠ r ∧ p ≠ R.hb r) (fun i _ _ => nc - (intOf i).toNat)
        case atStart => exact ⟨0, r, s, R, rfl, Nat.zero_le _, rfl, HB4.out, HBO4.out, HBX.out, HGP.out.2.2.1, HGP.out.2.2.2⟩
        case round =>
          obtain ⟨j, r, s, R, rfl, hj, rfl, hbq, hboth, hbxq, hpr, hpb⟩ := hrel
          have HBQ := hide hbq
          have HBO := hide hboth
          have HBXQ := hide hbxq
          have HPR := hide hpr
          have HPB := hide hpb
          clear hbq hboth hbxq hpr hpb HBO4 HB4 HBX c18
          by_cases hlt2 : j < nc
          · obtain ⟨a, x, rfl, hab, hx0, hx1, hcx⟩ := (HT.out.below HBQ.out) j hlt2
            by_cases hxk : x = k
            · have HCL := hide (clear_any HBO.out.ga)
              go_wp2_with (first
                | (go_at_call 29; refine HCL.out.mono ?_; rintro e w6 ⟨rfl, hk6, ho6⟩)
                | (refine wpList_buildTo rfl 70 _ rfl _ rfl #[.int .i64 n, .bool false, .int .u16 0, .int .u32 0, .slice none 0 0] (by kernel_rfl) ?_))
              go_roundw
              case rel =>
                have hb6 : Below w.heap.size w w6 := Only.below HBQ.out ho6 HBO.out.g0 HBO.out.h0 HBQ.out.size
                have hb7 : Below w6.heap.size w6 (w6.alloc (.cells #[.int .i64 n, .bool false, .int .u16 0, .int .u32 0, .slice none 0 0] 70)) := (Below.refl _ _).alloc (Nat.le_refl _) _
                have hz6 := ho6.size
                have hgl := hk6.glt
                have hhl := hk6.lt
                have hpx := (Array.getElem?_eq_some_iff.1 HBXQ.out).1
                have hp6 := (ho6.block p hpx HGP.out.1 HGP.out.2.1).trans HBXQ.out
                refine ⟨j + 1, w6.heap.size, _, newR n, by go_num, by omega, rfl, hb6.trans (hb7.mono hb6.size), ⟨hk6.below hb7, ⟨heap_alloc_new w6 _, Nat.le_refl _, fun a h => (by cases h), fun h => absurd rfl h⟩, Alike.fresh (by rw [HBO.out.al.len, HBO.out.sz]) hn1 hn2, rfl, HBO.out.g0, HBO.out.h0, hb6.size, hb6.size, by omega, by omega, by show w6.heap.size ≠ gg; omega, by show w6.heap.size ≠ gh; omega⟩, (hb7.block p (by omega)).trans hp6, by omega, by show p ≠ w6.heap.size; omega⟩
              case measure => simp [intOf]; omega
            · have hxk2 : (x == (k : Int)) = false := by simpa using hxk
              go_wp2_with fail
              go_roundw
              case rel => exact ⟨j + 1, r, s, R, by go_num, by omega, rfl, HBQ.out, HBO.out, HBXQ.out, HPR.out, HPB.out⟩
              case measure => simp [intOf]; omega
          · obtain ⟨a0, b0, c0, s0, R0, hput, hrput, hal⟩ := HBO.out.al.put f (HFB.out.vi) (HFB.out.vs)
            have hok : FrOk f := ⟨HFB.out.part, HFB.out.parts, by omega⟩
            have HP1 := hide (put_t HBO.out.ga HBO.out.al.ok f hok hput)
            have hbxq := HBXQ.out
            have hzz : R0.size = R.size := by
              have h1 := (put_ok HBO.out.al.ok f).2
              rw [hput] at h1
              rw [← hal.len, ← HBO.out.al.len]
              exact h1
            have HZZ := hide hzz
            have HHAL := hide hal
            clear hzz
            clear hput hal
            go_upto_region 23 with (first
              | (refine wpList_load_row rfl 52 _ rfl _ rfl 52 _ (0, 0) _ hbxq Try.underlying52 rfl (by kernel_rfl) ?_)
              | (go_at_call 27; refine HP1.out.mono ?_; rintro e w6 ⟨rfl, hk6, ho6⟩))
            have hbx6 := (ho6.block p (Array.getElem?_eq_some_iff.1 hbxq).1 HGP.out.1 HGP.out.2.1).trans hbxq
            have hb6 : Below w.heap.size w w6 := Only.below HBQ.out ho6 HBO.out.g0 HBO.out.h0 HBQ.out.size
            have hp2 : Calls Try.prog 30 #[.pointer (some ⟨r, 0, none⟩), .agg (frV f)] w6 fun e w' => e = .returned (.tuple #[.string a0, .bool b0, .int .i64 c0]) ∧ RPost w6 w' r R R0 := rput_any (HBO.out.put hk6 ho6) HBO.out.al f hok HFB.out.vi HFB.out.vs hrput
            have HP2 := hide hp2
            clear hp2
            have HK6 := hide hk6; have HO6 := hide ho6; have HB6 := hide hb6
            clear hk6 ho6 hb6 hbxq hrput hok
            go_upto_region 24 with (first
              | (refine wpList_load_row rfl 52 _ rfl _ rfl 52 _ (0, 0) _ hbx6 Try.underlying52 rfl (by kernel_rfl) ?_)
              | (go_at_call 30; refine HP2.out.mono ?_; rintro e w7 ⟨rfl, hpost⟩))
            obtain ⟨R2, ho7, hboth7, e1, e2, e3, e4⟩ := HBO.out.puts HBQ.out.size HK6.out HO6.out hpost HHAL.out HZZ.out
            have hb7 : Below w.heap.size w w7 := Only.below HB6.out ho7 HBO.out.r0 HBO.out.b0 HB6.out.size
            have HB7 := hide hb7; have HBO7 := hide hboth7
            clear hpost ho7 hb7 hboth7 e1 e2 e3 e4 hbx6 HP1 HP2 HK6 HO6 HB6
            have his := HBO7.out.al.is
            cases hi : s0.is
            · have HAT := hide (at_no HBO7.out.ga hi)
              rw [hi] at his
              have HIS := hide his
              have HI := hide hi
              clear his hi
              go_upto_region 25 with (go_at_call 28; refine HAT.out.mono ?_; rintro e w8 ⟨rfl, hb8⟩)
              have hb9 : Below w8.heap.size w8 (w8.alloc (.cells #[.int .u16 0, .int .u32 0] 50)) := (Below.refl _ _).alloc (Nat.le_refl _) _
              have HBO9 := hide ((HBO7.out.below hb8).below hb9)
              have HB9 := hide ((HB7.out.trans (hb8.mono HB7.out.size)).trans (hb9.mono (HB7.out.trans (hb8.mono HB7.out.size)).size))
              have v0 : (w8.alloc (.cells #[.int .u16 0, .int .u32 0] 50)).cell? ⟨w8.heap.size, 0, none⟩ = some (.int .u16 0) := blk_cell (heap_alloc_new w8 _) 0
              have v1 : (w8.alloc (.cells #[.int .u16 0, .int .u32 0] 50)).cell? ⟨w8.heap.size, 1, none⟩ = some (.int .u32 0) := blk_cell (heap_alloc_new w8 _) 1
              have hv9 : w8.heap.size < (w8.alloc (.cells #[.int .u16 0, .int .u32 0] 50)).heap.size := by simp
              clear hb8 hb9
              generalize w8.alloc (.cells #[.int .u16 0, .int .u32 0] 50) = w9 at v0 v1 hv9 HBO9 HB9 ⊢
              generalize w8.heap.size = pv at v0 v1 hv9 ⊢
              have hr9 := HBO9.out.ra.lt
              have r1 : w9.cell? ⟨r, 1, none⟩ = some (.bool false) := by rw [HIS.out]; exact blk_cell HBO9.out.ra.blk 1
              have r2 : w9.cell? ⟨r, 2, none⟩ = some (.int .u16 0) := by rw [show 0 = R2.vi from (HBO9.out.al.no HIS.out.symm).2.2.1.symm]; exact blk_cell HBO9.out.ra.blk 2
              have r3 : w9.cell? ⟨r, 3, none⟩ = some (.int .u32 0) := by rw [show 0 = R2.vs from (HBO9.out.al.no HIS.out.symm).2.2.2.symm]; exact blk_cell HBO9.out.ra.blk 3
              have hcl := HBO9.out.al.came_len
              have hcnt : (cnt R2.came : Int) = 0 := by rw [(HBO9.out.al.no HIS.out.symm).1]; rfl
              have HCNT := hide (fun (w' : World) (h : Below w9.heap.size w9 w') => count_any (HBO9.out.ra.keep h) (by omega))
              have HCN := hide hcnt
              have ne9 := fun W => neqV 0 0 W
              clear hcnt hcl
              go_region_held3 (fun w' => (∀ b o, b < w9.heap.size → w'.cell? ⟨b, o, none⟩ = w9.cell? ⟨b, o, none⟩) ∧ Below w9.heap.size w9 w')
                (first | exact BS.drew _ | exact BS.go (by assumption) (by assumption))
                ((go_at_call 31; refine (HCNT.out _ (And.right (by assumption))).mono ?_; rw [HCN.out]; rintro e w' ⟨rfl, hbw⟩))
              obtain ⟨_, hB⟩ := ‹(∀ b o, b < w9.heap.size → _) ∧ Below w9.heap.size w9 _›
              have HBO10 := hide (HBO9.out.below hB)
              have HB10 := hide (HB9.out.trans (hB.mono HB9.out.size))
              go_wp2_with fail
              go_roundw
              case rel => exact ⟨k + 1, r, s0, R2, by go_num, by omega, rfl, HB10.out, HBO10.out⟩
              case measure => simp [intOf]; omega
            · have HAT := hide (at_yes HBO7.out.ga hi)
              rw [hi] at his
              have HIS := hide his
              have HI := hide hi
              clear his hi
              go_upto_region 25 with (go_at_call 28; refine HAT.out.mono ?_; rintro e w8 ⟨rfl, hb8⟩)
              have hb9 : Below w8.heap.size w8 (w8.alloc (.cells #[.int .u16 s0.vi, .int .u32 s0.vs] 50)) := (Below.refl _ _).alloc (Nat.le_refl _) _
              have HBO9 := hide ((HBO7.out.below hb8).below hb9)
              have HB9 := hide ((HB7.out.trans (hb8.mono HB7.out.size)).trans (hb9.mono (HB7.out.trans (hb8.mono HB7.out.size)).size))
              have v0 : (w8.alloc (.cells #[.int .u16 s0.vi, .int .u32 s0.vs] 50)).cell? ⟨w8.heap.size, 0, none⟩ = some (.int .u16 s0.vi) := blk_cell (heap_alloc_new w8 _) 0
              have v1 : (w8.alloc (.cells #[.int .u16 s0.vi, .int .u32 s0.vs] 50)).cell? ⟨w8.heap.size, 1, none⟩ = some (.int .u32 s0.vs) := blk_cell (heap_alloc_new w8 _) 1
              have hv9 : w8.heap.size < (w8.alloc (.cells #[.int .u16 s0.vi, .int .u32 s0.vs] 50)).heap.size := by simp
              clear hb8 hb9
              generalize w8.alloc (.cells #[.int .u16 s0.vi, .int .u32 s0.vs] 50) = w9 at v0 v1 hv9 HBO9 HB9 ⊢
              generalize w8.heap.size = pv at v0 v1 hv9 ⊢
              have hr9 := HBO9.out.ra.lt
              have r1 : w9.cell? ⟨r, 1, none⟩ = some (.bool true) := by rw [HIS.out]; exact blk_cell HBO9.out.ra.blk 1
              have r2 : w9.cell? ⟨r, 2, none⟩ = some (.int .u16 s0.vi) := by rw [show s0.vi = R2.vi from HBO9.out.al.vi]; exact blk_cell HBO9.out.ra.blk 2
              have r3 : w9.cell? ⟨r, 3, none⟩ = some (.int .u32 s0.vs) := by rw [show s0.vs = R2.vs from HBO9.out.al.vs]; exact blk_cell HBO9.out.ra.blk 3
              have hcl := HBO9.out.al.came_len
              have hcnt : (cnt R2.came : Int) = s0.n := by rw [HBO9.out.al.count]; exact HBO9.out.al.ok.n.symm
              have HCNT := hide (fun (w' : World) (h : Below w9.heap.size w9 w') => count_any (HBO9.out.ra.keep h) (by omega))
              have HCN := hide hcnt
              have ne9 := fun W => neqV s0.vi s0.vs W
              clear hcnt hcl
              go_region_held3 (fun w' => (∀ b o, b < w9.heap.size → w'.cell? ⟨b, o, none⟩ = w9.cell? ⟨b, o, none⟩) ∧ Below w9.heap.size w9 w')
                (first | exact BS.drew _ | exact BS.go (by assumption) (by assumption))
                ((go_at_call 31; refine (HCNT.out _ (And.right (by assumption))).mono ?_; rw [HCN.out]; rintro e w' ⟨rfl, hbw⟩))
              obtain ⟨_, hB⟩ := ‹(∀ b o, b < w9.heap.size → _) ∧ Below w9.heap.size w9 _›
              have HBO10 := hide (HBO9.out.below hB)
              have HB10 := hide (HB9.out.trans (hB.mono HB9.out.size))
              go_wp2_with fail
              go_roundw
              case rel => exact ⟨k + 1, r, s0, R2, by go_num, by omega, rfl, HB10.out, HBO10.out⟩
              case measure => simp [intOf]; omega
    · go_wp2_with fail
      go_ret
      exact ⟨rfl, HBR.out⟩
end Go.Proofs.Ytoekemceminciaa
