/- awake of layer 7. -/
import Derived.Test.YtocbaapnajdcfaaDoorPk
import Derived.Test.YtocbaapnajdcfaaDoorPv
import Derived.Test.YtocbaapnajdcfaaDoorEr
namespace Go.Proofs.YtocbaapnajdcfaaDoor
open Go.RowKit
set_option linter.unusedVariables false
set_option linter.unusedSimpArgs false
attribute [local go_sem] ofL_toList

theorem rec_eq10 (w : World) (x0 y0 x1 y1 : Int) (x2 y2 : ByteArray) :
    (Op.equalIn 10000 25 (.agg #[.int .u32 x0, .int .u16 x1, .string x2]) (.agg #[.int .u32 y0, .int .u16 y1, .string y2])).run Tryd.prog w = .ok (x0 == y0 && (x1 == y1 && (x2.toList == y2.toList))) w := eqRec 9998 w x0 y0 x1 y1 x2 y2
attribute [local go_sem] rec_eq10

theorem made_below {w w1 w2 : World} {g h : Nat} (b : Below w.heap.size w w1) (o : Only g h w1 w2) (hg : w.heap.size ≤ g) (hh : w.heap.size ≤ h) : Below w.heap.size w w2 := o.below b hg hh b.size

/-- 'bytes' of the law. -/
theorem bytes_any {w : World} {g h cap : Nat} {s : St} (k : StAt w g h cap s) :
    Calls Tryd.prog 13 #[.pointer (some ⟨g, 0, none⟩)] w fun e w' => e = .returned (.string (ofL s.b)) ∧ w = w' := by
  have HL := hide (len_any k)
  have HR := hide (read_to k 0 s.b.length ⟨by omega, by omega, by omega, by omega⟩ (l := s.b) (by simp))
  clear k
  go_enter Tryd.func13, Tryd.ntmps13
  go_wp2_with fail
  refine HL.out.mono ?_
  rintro e w' ⟨rfl, rfl⟩
  go_wp2_with fail
  refine HR.out.mono ?_
  rintro e w' ⟨rfl, rfl⟩
  go_wp2_with fail
  go_ret
  exact ⟨rfl, rfl⟩

theorem awake_chain : ∃ s1 s2 s3 : St, BootP ⟨List.replicate 148 0, false, false, 0, 0⟩ = ((⟨1, 1, []⟩, 0), s1) ∧ CommitP s1 1 [120, 121] = (0, s2) ∧ BootP s2 = ((⟨3, 2, [120, 121]⟩, 0), s3) ∧ (newestP s3.b).2 = (⟨3, 2, [120, 121]⟩, true) ∧ s1.wrote = 75 ∧ s2.wrote = 150 := by
  obtain ⟨s1, e1, h1, d1, a1, _⟩ := commit_un (r := ⟨0, 1, []⟩) zeros_holds rfl rfl (by decide) ⟨show 0 < 4294967296 by decide, show 1 < 65536 by decide, show 0 ≤ 64 by decide⟩
  obtain ⟨s2, e2, h2, d2, a2, _⟩ := commit_un (r := ⟨0, 1, [120, 121]⟩) h1 d1 a1 (by decide) ⟨show 0 < 4294967296 by decide, show 1 < 65536 by decide, show 2 ≤ 64 by decide⟩
  obtain ⟨s3, e3, h3, d3, a3, _⟩ := commit_un (r := ⟨2, 2, [120, 121]⟩) h2 d2 a2 (by decide) ⟨show 2 < 4294967296 by decide, show 2 < 65536 by decide, show 2 ≤ 64 by decide⟩
  refine ⟨s1, s2, s3, ?_, ?_, ?_, h3.new, h1.wrote, h2.wrote⟩
  · rw [Boot_eq zeros_holds (by decide)]
    exact e1
  · rw [Commit_eq (by decide), e2]
  · rw [Boot_eq h2 (by decide)]
    exact e3

theorem ofL_xy : ofL [120, 121] = ⟨#[120, 121]⟩ := rfl
theorem ofL_nil : ofL [] = ⟨#[]⟩ := rfl

set_option maxRecDepth 100000 in
set_option maxHeartbeats 2000000 in
theorem awake07 (w : World) : Calls Tryd.prog 7 #[] w fun e w' => e = .returned (.bool true) ∧ Below w.heap.size w w' := by
  obtain ⟨s1, s2, s3, c1, c2, c3, c4, n1, n2⟩ := awake_chain
  have C1 := hide c1; have C2 := hide c2; have C3 := hide c3; have C4 := hide c4; have N1 := hide n1; have N2 := hide n2
  clear c1 c2 c3 c4 n1 n2
  go_enter Tryd.func7, Tryd.ntmps7
  go_wp2_with fail
  refine (size_any _).mono ?_
  rintro e w' ⟨rfl, rfl⟩
  go_wp2_with fail
  refine (new_to _ 148 148 rfl).mono ?_
  rintro e w1 ⟨g, h, cap, rfl, k1, hg, hh, b1⟩
  have HB := Boot_any k1 (by decide)
  rw [C1.out] at HB
  have K1 := hide k1; have B1 := hide b1; have HBH := hide HB
  clear k1 b1 HB
  go_wp2_with fail
  refine HBH.out.mono ?_
  rintro e w2 ⟨rfl, k2, o2⟩
  unfold Rec.v
  have B2 := hide (made_below B1.out o2 hg hh)
  have K2 := hide (k2.below ((Below.refl _ _).alloc (Nat.le_refl _) (.cells #[.int .u32 1, .int .u16 1, .string ⟨#[]⟩] 25)))
  clear k2 o2 HBH B1 K1
  simp only [ofL_nil]
  have HC := hide (Commit_any K2.out 1 (by decide) [120, 121] (by decide) (by rw [N1.out]; decide))
  rw [C2.out, ofL_xy] at HC
  go_wp2_with fail
  refine HC.out.mono ?_
  rintro e w3 ⟨rfl, k3, o3⟩
  have B3 := hide (made_below (B2.out.alloc B2.out.size _) o3 hg hh)
  have K3 := hide k3
  clear k3 o3 HC B2 K2
  have HB := hide (Boot_any K3.out (by rw [N2.out]; decide))
  rw [C3.out] at HB
  go_wp2_with fail
  refine HB.out.mono ?_
  rintro e w4 ⟨rfl, k4, o4⟩
  unfold Rec.v
  simp only [ofL_xy]
  have B4 := hide (made_below B3.out o4 hg hh)
  obtain ⟨q, hq⟩ : ∃ q, w4.heap.size = q := ⟨_, rfl⟩
  obtain ⟨w5, hw5⟩ : ∃ w5, w4.alloc (.cells #[.int .u32 3, .int .u16 2, .string ⟨#[120, 121]⟩] 25) = w5 := ⟨_, rfl⟩
  have hq5 : w5.heap[q]? = some (.cells #[.int .u32 3, .int .u16 2, .string ⟨#[120, 121]⟩] 25 (0, 0)) := by rw [← hw5, ← hq]; exact heap_alloc_new w4 _
  have k5 : StAt w5 g h cap s3 := by rw [← hw5]; exact k4.below ((Below.refl _ _).alloc (Nat.le_refl _) _)
  have B5 := hide (show Below w.heap.size w w5 by rw [← hw5]; exact B4.out.alloc B4.out.size _)
  have HL := hide (load_any k5)
  rw [C4.out] at HL
  have HW5 := hide hw5; have HQ := hide hq; have HQ5 := hide hq5
  clear hw5 hq hq5 k5 k4 o4 HB B4 K3
  go_upto_region 5 with (fail)
  rw [HQ.out, HW5.out]
  go_wp2_with fail
  refine HL.out.mono ?_
  rintro e w6 ⟨rfl, b6⟩
  unfold Rec.v
  simp only [ofL_xy]
  have hq6 := (b6.block q (Array.getElem?_eq_some_iff.1 HQ5.out).1).trans HQ5.out
  have B6 := hide (B5.out.trans (b6.mono B5.out.size))
  obtain ⟨p, hp⟩ : ∃ p, w6.heap.size = p := ⟨_, rfl⟩
  obtain ⟨w7, hw7⟩ : ∃ w7, w6.alloc (.cells #[.int .u32 3, .int .u16 2, .string ⟨#[120, 121]⟩] 25) = w7 := ⟨_, rfl⟩
  have hq7 : w7.heap[q]? = some (.cells #[.int .u32 3, .int .u16 2, .string ⟨#[120, 121]⟩] 25 (0, 0)) := by rw [← hw7]; exact old_alloc hq6 _
  have hp7 : w7.heap[p]? = some (.cells #[.int .u32 3, .int .u16 2, .string ⟨#[120, 121]⟩] 25 (0, 0)) := by rw [← hw7, ← hp]; exact heap_alloc_new w6 _
  have B7 := hide (show Below w.heap.size w w7 by rw [← hw7]; exact B6.out.alloc B6.out.size _)
  have HW7 := hide hw7; have HP := hide hp
  clear hw7 hp hq6 b6 B6 HL B5
  go_upto_region 6 with (fail)
  rw [HP.out, HW7.out]
  have c0 : w7.cell? ⟨q, 0, none⟩ = some (.int .u32 3) := blk_cell hq7 0
  have c1 : w7.cell? ⟨q, 1, none⟩ = some (.int .u16 2) := blk_cell hq7 1
  have c2 : w7.cell? ⟨q, 2, none⟩ = some (.string ⟨#[120, 121]⟩) := blk_cell hq7 2
  have d0 : w7.cell? ⟨p, 0, none⟩ = some (.int .u32 3) := blk_cell hp7 0
  have d1 : w7.cell? ⟨p, 1, none⟩ = some (.int .u16 2) := blk_cell hp7 1
  have d2 : w7.cell? ⟨p, 2, none⟩ = some (.string ⟨#[120, 121]⟩) := blk_cell hp7 2
  have hsame := fun W : World => eqRec 9998 W 3 3 2 2 ⟨#[120, 121]⟩ ⟨#[120, 121]⟩
  clear hq7 hp7
  go_wp2_with fail
  refine (cost_any _).mono ?_
  rintro e w' ⟨rfl, rfl⟩
  go_wp2_with fail
  go_ret
  exact ⟨rfl, B7.out⟩
end Go.Proofs.YtocbaapnajdcfaaDoor
