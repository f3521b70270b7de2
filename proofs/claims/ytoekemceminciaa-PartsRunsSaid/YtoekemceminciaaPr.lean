/- The walk of PartsRuns. -/
import Derived.Test.YtoekemceminciaaRl
import Derived.Test.YtoekemceminciaaPw
import Derived.Test.YtoekemceminciaaOf
namespace Go.Proofs.Ytoekemceminciaa
open Go.RowKit
set_option linter.unusedVariables false
set_option linter.unusedSimpArgs false

/-- Frames that came in. -/
def FrsIn (W : World) (A : Option Addr) (n : Nat) : Prop := ∀ i, i < n → ∃ (b o : Nat) (f : Fr), A = some ⟨b, o, none⟩ ∧ b < W.heap.size ∧ W.rangeAt b (o + i * 19) (frV f).toList ∧ FrB f
theorem FrsIn.below {W w : World} {A : Option Addr} {n : Nat} (h : FrsIn W A n) (hb : Below W.heap.size W w) : FrsIn w A n := by
  intro i hi
  obtain ⟨b, o, f, e, hlt, hr, hf⟩ := h i hi
  refine ⟨b, o, f, e, Nat.lt_of_lt_of_le hlt hb.size, fun j v hj => ?_, hf⟩
  rw [World.cell?_of_block (w := W) (hb.block _ hlt)]
  exact hr j v hj

set_option maxHeartbeats 1000000 in
set_option maxRecDepth 20000 in
theorem pruns_long (size : Int) (A B : Option Addr) (nl cl nc cc : Nat) (w : World) (hbig : 60 < nl ∨ 60 < nc) :
    Calls Try.prog 8 #[.int .i64 size, .slice A nl cl, .slice B nc cc] w fun e w' => e = .returned (.bool true) ∧ Below w.heap.size w w' := by
  have HAW := hide (awake_any w)
  go_enter Try.func8, Try.ntmps8
  go_upto_region 3 with (go_at_call 23; refine HAW.out.mono ?_; rintro e w1 ⟨rfl, hb1⟩)
  have HB1 := hide hb1
  clear hb1
  by_cases c1 : 60 < nl
  · go_wp2_with fail
    go_ret
    exact ⟨rfl, HB1.out⟩
  · have c3 : 60 < nc := by omega
    go_wp2_with fail
    go_ret
    exact ⟨rfl, HB1.out⟩

set_option maxHeartbeats 1000000 in
set_option maxRecDepth 20000 in
theorem pruns_bad (size : Int) (hs : ¬ (1 ≤ size ∧ size ≤ 64)) (A B : Option Addr) (nl cl nc cc : Nat) (w : World) (h1 : nl ≤ 60) (h2 : nc ≤ 60) :
    Calls Try.prog 8 #[.int .i64 size, .slice A nl cl, .slice B nc cc] w fun e w' => e = .returned (.bool true) ∧ Below w.heap.size w w' := by
  have HAW := hide (awake_any w)
  have HN := hide (fun w => gnew_no w size hs)
  have hput := fun w => put_nil w { zFr with kind := 4 }
  have HPUT := hide hput
  clear hput
  go_enter Try.func8, Try.ntmps8
  go_upto_region 6 with (first
    | (go_at_call 23; refine HAW.out.mono ?_; rintro e w1 ⟨rfl, hb1⟩; have HB1 := hide hb1; clear hb1)
    | (go_at_call 26; refine (HN.out _).mono ?_; rintro e w' ⟨rfl, rfl⟩))
  by_cases c1 : size < 1
  · go_wp2_with (first
      | (refine wpList_buildTo rfl 52 _ rfl _ rfl (frV { zFr with kind := 4 }) (by kernel_rfl) ?_)
      | (go_at_call 27; refine (HPUT.out _).mono ?_; rintro e w2 ⟨rfl, hb2⟩))
    go_ret
    exact ⟨rfl, HB1.out.trans (hb2.mono HB1.out.size)⟩
  · have c2 : 64 < size := by omega
    go_wp2_with (first
      | (refine wpList_buildTo rfl 52 _ rfl _ rfl (frV { zFr with kind := 4 }) (by kernel_rfl) ?_)
      | (go_at_call 27; refine (HPUT.out _).mono ?_; rintro e w2 ⟨rfl, hb2⟩))
    go_ret
    exact ⟨rfl, HB1.out.trans (hb2.mono HB1.out.size)⟩

/-- The two glues in memory, apart. -/
structure Both (B : Nat) (w : World) (g h c r n : Nat) (s : Gl) (R : Rg) : Prop where
  ga : GAt w g h c s
  ra : RAt w r R
  al : Alike s R
  sz : R.size = n
  g0 : B ≤ g
  h0 : B ≤ h
  r0 : B ≤ r
  b0 : B ≤ R.hb r
  rg : r ≠ g
  rh : r ≠ h
  bg : R.hb r ≠ g
  bh : R.hb r ≠ h

theorem RAt.lt {w : World} {r : Nat} {R : Rg} (k : RAt w r R) : r < w.heap.size := (Array.getElem?_eq_some_iff.1 k.blk).1
theorem Both.below {B : Nat} {w w' : World} {g h c r n : Nat} {s : Gl} {R : Rg} (k : Both B w g h c r n s R) (b : Below w.heap.size w w') : Both B w' g h c r n s R :=
  { k with ga := k.ga.below b, ra := k.ra.keep b }
theorem RAt.only {w w' : World} {r g h : Nat} {R : Rg} (k : RAt w r R) (o : Only g h w w') (h1 : r ≠ g) (h2 : r ≠ h) (h3 : R.hb r ≠ g) (h4 : R.hb r ≠ h) : RAt w' r R := by
  refine ⟨(o.block r k.lt h1 h2).trans k.blk, k.cap, fun a h => Nat.lt_of_lt_of_le (k.bl a h) o.size, fun hne => ?_⟩
  obtain ⟨h', cur, e, hn, hb, ht⟩ := k.row hne
  have : R.hb r = h' := by unfold Rg.hb; rw [e]
  rw [this] at h3 h4
  exact ⟨h', cur, e, hn, (o.block h' (Array.getElem?_eq_some_iff.1 hb).1 h3 h4).trans hb, ht⟩
theorem RAt.hbl {w : World} {r : Nat} {R : Rg} (k : RAt w r R) : R.hb r < w.heap.size := by
  unfold Rg.hb
  split
  · exact k.bl _ (by assumption)
  · exact k.lt

/-- Behind both Puts. -/
theorem Both.puts {B : Nat} {w w1 w2 : World} {g h c r n : Nat} {s s' : Gl} {R R' : Rg} (k : Both B w g h c r n s R) (hB : B ≤ w.heap.size) (hg : GAt w1 g h c s') (o : Only g h w w1) (hp : RPost w1 w2 r R R') (hal : Alike s' R') (hz : R'.size = R.size) :
    ∃ R2, Only r (R.hb r) w1 w2 ∧ Both B w2 g h c r n s' R2 ∧ R2.is = R'.is ∧ R2.vi = R'.vi ∧ R2.vs = R'.vs ∧ R2.came = R'.came := by
  obtain ⟨b, cp, hr, o2, hb⟩ := hp
  have hgl := hg.glt
  have hhl := hg.lt
  have key : ({ R' with base := b, cap := cp } : Rg).hb r = R.hb r ∨ w1.heap.size ≤ ({ R' with base := b, cap := cp } : Rg).hb r := by
    rcases hb with ⟨h1, -⟩ | ⟨g', h1, h2⟩
    · left; unfold Rg.hb; rw [h1]
    · right; unfold Rg.hb; rw [h1]; exact h2
  have hz1 := o.size
  refine ⟨{ R' with base := b, cap := cp }, o2, ⟨hg.keep o2 k.rg.symm k.bg.symm k.rh.symm k.bh.symm, hr, { hal with }, hz.trans k.sz, k.g0, k.h0, k.r0, ?_, k.rg, k.rh, ?_, ?_⟩, rfl, rfl, rfl, rfl⟩
  · rcases key with e | e
    · rw [e]; exact k.b0
    · omega
  · rcases key with e | e
    · rw [e]; exact k.bg
    · omega
  · rcases key with e | e
    · rw [e]; exact k.bh
    · omega
end Go.Proofs.Ytoekemceminciaa
