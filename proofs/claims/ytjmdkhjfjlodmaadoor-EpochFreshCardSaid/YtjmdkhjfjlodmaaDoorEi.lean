/- '==' of epochs and marks; awake of layer 3. -/
import Derived.Test.YtjmdkhjfjlodmaaDoorEh
import Derived.Laws.StructEq
import Derived.Deep.MidRow
namespace Go.Proofs.YtjmdkhjfjlodmaaDoor
open Go.RowKit
set_option linter.unusedVariables false
set_option linter.unusedSimpArgs false
section
variable {P : Program} {d : Nat} {xs ys : Array Value} {f : Field} {fs : List Field} {a b : Value} {r s : Bool} {w : World}
theorem eq_cons (hn : (f.name == "_") = false) (ha : (part f.type xs f.offset).run P w = .ok a w) (hb : (part f.type ys f.offset).run P w = .ok b w) (he : (Op.equalIn d f.type a b).run P w = .ok r w) (hr : (Op.eqFields d xs ys fs).run P w = .ok s w) : (Op.eqFields d xs ys (f :: fs)).run P w = .ok (r && s) w := by
  have hn' : f.name ≠ "_" := by simpa using hn
  unfold Op.eqFields
  simp only [if_pos hn', Sem.run_bind, ha, hb, he, Result.andThen_ok]
  cases r <;> simp [hr]
theorem eq_last (hn : (f.name == "_") = false) (ha : (part f.type xs f.offset).run P w = .ok a w) (hb : (part f.type ys f.offset).run P w = .ok b w) (he : (Op.equalIn d f.type a b).run P w = .ok r w) : (Op.eqFields d xs ys [f]).run P w = .ok r w := by
  have := eq_cons (s := true) (fs := []) hn ha hb he (by simp [Op.eqFields])
  rwa [Bool.and_true] at this
theorem eq_of {t : TypeId} {fs : Array Field} (hu : P.underlying t = some (.struct fs)) (hp : P.stoodInHeld t = false) (h : (Op.eqFields d xs ys fs.toList).run P w = .ok r w) : (Op.equalIn (d + 1) t (.agg xs) (.agg ys)).run P w = .ok r w := by
  have hf : P.fieldsOf t = fs := by simp [Program.fieldsOf, hu]
  rw [run_equalIn_struct (P := P) w d t xs ys (by rw [hf]; exact hu) hp, hf]
  exact h
theorem part_leaf {t : TypeId} {D : TypeDesc} {off : Nat} {v : Value} (hu : P.underlying t = some D) (hd : D.isRow = false) (hx : xs[off]? = some v) : (part t xs off).run P w = .ok v w := by
  have hagg : (isAgg t).run P w = .ok false w := by
    unfold isAgg
    rw [Sem.run_bind, run_underlying hu w]
    cases D <;> simp_all [TypeDesc.isRow]
  unfold part
  simp [Sem.run_bind, hagg, hx]
theorem part_row {t : TypeId} {D : TypeDesc} {off n : Nat} {cs : Array Value} (hu : P.underlying t = some D) (hd : D.isRow = true) (hi : (P.info? t).map (·.size) = some n) (hx : xs.extract off (off + n) = cs) : (part t xs off).run P w = .ok (.agg cs) w := by
  have hagg : (isAgg t).run P w = .ok true w := by
    unfold isAgg
    rw [Sem.run_bind, run_underlying hu w]
    cases D <;> simp_all [TypeDesc.isRow]
  cases hq : P.info? t with
  | none => simp [hq] at hi
  | some i =>
    have hs : i.size = n := by simpa [hq] using hi
    unfold part
    simp [Sem.run_bind, hagg, sizeOf, typeInfo, hq, hs, hx]
end


theorem eqEp (d : Nat) (w : World) (x0 y0 x1 y1 x2 y2 : Int) :
    (Op.equalIn (d + 2) 24 (.agg #[.int .u16 x0, .int .u8 x1, .int .u16 x2]) (.agg #[.int .u16 y0, .int .u8 y1, .int .u16 y2])).run Tryd.prog w = .ok (x0 == y0 && (x1 == y1 && (x2 == y2))) w := by
  refine eq_of Tryd.underlying24 (by kernel_rfl) ?_
  refine eq_cons (by rfl) (part_leaf Tryd.underlying22 rfl (by rfl)) (part_leaf Tryd.underlying22 rfl (by rfl)) (run_equalIn_int w _ _ _ _ _ _ Tryd.underlying22) ?_
  refine eq_cons (by rfl) (part_leaf Tryd.underlying5 rfl (by rfl)) (part_leaf Tryd.underlying5 rfl (by rfl)) (run_equalIn_int w _ _ _ _ _ _ Tryd.underlying5) ?_
  exact eq_last (by rfl) (part_leaf Tryd.underlying22 rfl (by rfl)) (part_leaf Tryd.underlying22 rfl (by rfl)) (run_equalIn_int w _ _ _ _ _ _ Tryd.underlying22)
theorem ep_eq10 (w : World) (x0 y0 x1 y1 x2 y2 : Int) :
    (Op.equalIn 10000 24 (.agg #[.int .u16 x0, .int .u8 x1, .int .u16 x2]) (.agg #[.int .u16 y0, .int .u8 y1, .int .u16 y2])).run Tryd.prog w = .ok (x0 == y0 && (x1 == y1 && (x2 == y2))) w := eqEp 9998 w x0 y0 x1 y1 x2 y2
theorem eqMk (d : Nat) (w : World) (x0 y0 x1 y1 x2 y2 x3 y3 : Int) :
    (Op.equalIn (d + 3) 35 (.agg #[.int .u16 x0, .int .u8 x1, .int .u16 x2, .int .u16 x3]) (.agg #[.int .u16 y0, .int .u8 y1, .int .u16 y2, .int .u16 y3])).run Tryd.prog w = .ok ((x0 == y0 && (x1 == y1 && (x2 == y2))) && (x3 == y3)) w := by
  refine eq_of Tryd.underlying35 (by kernel_rfl) ?_
  refine eq_cons (by rfl) (part_row Tryd.underlying24 rfl (n := 3) (by kernel_rfl) (by rfl)) (part_row Tryd.underlying24 rfl (n := 3) (by kernel_rfl) (by rfl)) (eqEp d w x0 y0 x1 y1 x2 y2) ?_
  exact eq_last (by rfl) (part_leaf Tryd.underlying22 rfl (by rfl)) (part_leaf Tryd.underlying22 rfl (by rfl)) (run_equalIn_int w _ _ _ _ _ _ Tryd.underlying22)
theorem mk_eq10 (w : World) (x0 y0 x1 y1 x2 y2 x3 y3 : Int) :
    (Op.equalIn 10000 35 (.agg #[.int .u16 x0, .int .u8 x1, .int .u16 x2, .int .u16 x3]) (.agg #[.int .u16 y0, .int .u8 y1, .int .u16 y2, .int .u16 y3])).run Tryd.prog w = .ok ((x0 == y0 && (x1 == y1 && (x2 == y2))) && (x3 == y3)) w := eqMk 9997 w x0 y0 x1 y1 x2 y2 x3 y3
attribute [local go_sem] ofL_toList
attribute [local go_sem] ep_eq10
attribute [local go_sem] mk_eq10

theorem text_824 : Ep.text ⟨8, 2, 4⟩ = [56, 46, 50, 46, 52] := by
  unfold Ep.text
  simp only [dd_small (show 8 < 10 by decide), dd_small (show 2 < 10 by decide), dd_small (show 4 < 10 by decide)]
  rfl
theorem ofL_824 : ofL [56, 46, 50, 46, 52] = ⟨#[56, 46, 50, 46, 52]⟩ := rfl

set_option maxRecDepth 100000 in
set_option maxHeartbeats 4000000 in
theorem awake03 (w : World) (hE : Env w) : Calls Tryd.prog 7 #[] w fun e w' => e = .returned (.bool true) ∧ Below w.heap.size w w' := by
  have HM := hide (mint_any ⟨7, 3, 1⟩ ⟨by decide, by decide, by decide⟩ 2 4 100 w)
  have hm : mintP ⟨7, 3, 1⟩ 2 4 100 = (⟨8, 2, 4⟩, true) := by unfold mintP; rw [if_neg (by decide)]
  rw [hm] at HM
  unfold Ep.v at HM
  simp only at HM
  have hr : readE [56, 46, 50, 46, 52] = (⟨8, 2, 4⟩, true) := readE_yes ⟨by decide, by decide, by decide⟩ text_824
  have HR := hide (fun W (h : Env W) => eread_any [56, 46, 50, 46, 52] (by decide) W h)
  rw [hr, ofL_824] at HR
  unfold Ep.v at HR
  simp only at HR
  have HE := hide hE
  clear hm hr hE
  go_enter Tryd.func7, Tryd.ntmps7
  go_wp2_with fail
  refine HM.out.mono ?_
  rintro e w1 ⟨rfl, b1⟩
  obtain ⟨g, hg⟩ : ∃ g, w1.heap.size = g := ⟨_, rfl⟩
  obtain ⟨w2, hw2⟩ : ∃ w2, w1.alloc (.cells #[.int .u16 8, .int .u8 2, .int .u16 4] 24) = w2 := ⟨_, rfl⟩
  have hx2 : w2.heap[g]? = some (.cells #[.int .u16 8, .int .u8 2, .int .u16 4] 24 (0, 0)) := by rw [← hw2, ← hg]; exact heap_alloc_new w1 _
  have b2 : Below w.heap.size w w2 := by rw [← hw2]; exact b1.alloc b1.size _
  have hg2 : g < w2.heap.size := (Array.getElem?_eq_some_iff.1 hx2).1
  have HG := hide hg; have HW2 := hide hw2; have HX2 := hide hx2; have B2 := hide b2
  clear hg hw2 hx2 b1 b2 HM
  go_upto_region 2 with (fail)
  rw [HG.out, HW2.out]
  go_wp2_with fail
  refine (HR.out w2 (HE.out.below B2.out)).mono ?_
  rintro e w3 ⟨rfl, b3⟩
  obtain ⟨h, hh⟩ : ∃ h, w3.heap.size = h := ⟨_, rfl⟩
  obtain ⟨w4, hw4⟩ : ∃ w4, w3.alloc (.cells #[.int .u16 8, .int .u8 2, .int .u16 4] 24) = w4 := ⟨_, rfl⟩
  have hx4 : w4.heap[h]? = some (.cells #[.int .u16 8, .int .u8 2, .int .u16 4] 24 (0, 0)) := by rw [← hw4, ← hh]; exact heap_alloc_new w3 _
  have hg4 : w4.heap[g]? = some (.cells #[.int .u16 8, .int .u8 2, .int .u16 4] 24 (0, 0)) := by rw [← hw4]; exact old_alloc ((b3.block _ hg2).trans HX2.out) _
  have b4 : Below w.heap.size w w4 := by
    have b := B2.out.trans (b3.mono B2.out.size)
    rw [← hw4]; exact b.alloc b.size _
  have HH := hide hh; have HW4 := hide hw4; have HX4 := hide hx4; have HG4 := hide hg4; have B4 := hide b4
  clear hh hw4 hx4 hg4 b3 b4 HR B2
  go_upto_region 3 with (fail)
  rw [HH.out, HW4.out]
  have c0 : w4.cell? ⟨g, 0, none⟩ = some (.int .u16 8) := blk_cell HG4.out 0
  have c1 : w4.cell? ⟨g, 1, none⟩ = some (.int .u8 2) := blk_cell HG4.out 1
  have c2 : w4.cell? ⟨g, 2, none⟩ = some (.int .u16 4) := blk_cell HG4.out 2
  have HP := hide (hop_more ⟨⟨8, 2, 4⟩, 1⟩ (by decide) w4)
  unfold Mk.v at HP
  simp only at HP
  go_wp2_with fail
  refine HP.out.mono ?_
  rintro e w5 ⟨rfl, b5⟩
  obtain ⟨k, hk⟩ : ∃ k, w5.heap.size = k := ⟨_, rfl⟩
  obtain ⟨w6, hw6⟩ : ∃ w6, w5.alloc (.cells #[.int .u16 8, .int .u8 2, .int .u16 4, .int .u16 2] 35) = w6 := ⟨_, rfl⟩
  have hx6 : w6.heap[k]? = some (.cells #[.int .u16 8, .int .u8 2, .int .u16 4, .int .u16 2] 35 (0, 0)) := by rw [← hw6, ← hk]; exact heap_alloc_new w5 _
  have hg6 : w6.heap[g]? = some (.cells #[.int .u16 8, .int .u8 2, .int .u16 4] 24 (0, 0)) := by rw [← hw6]; exact old_alloc ((b5.block _ (Array.getElem?_eq_some_iff.1 HG4.out).1).trans HG4.out) _
  have hh6 : w6.heap[h]? = some (.cells #[.int .u16 8, .int .u8 2, .int .u16 4] 24 (0, 0)) := by rw [← hw6]; exact old_alloc ((b5.block _ (Array.getElem?_eq_some_iff.1 HX4.out).1).trans HX4.out) _
  have b6 : Below w.heap.size w w6 := by
    have b := B4.out.trans (b5.mono B4.out.size)
    rw [← hw6]; exact b.alloc b.size _
  have HK := hide hk; have HW6 := hide hw6; have HX6 := hide hx6; have HG6 := hide hg6; have HH6 := hide hh6; have B6 := hide b6
  clear hk hw6 hx6 hg6 hh6 b5 b6 HP c0 c1 c2 B4
  go_upto_region 4 with (fail)
  rw [HK.out, HW6.out]
  have c0 : w6.cell? ⟨g, 0, none⟩ = some (.int .u16 8) := blk_cell HG6.out 0
  have c1 : w6.cell? ⟨g, 1, none⟩ = some (.int .u8 2) := blk_cell HG6.out 1
  have c2 : w6.cell? ⟨g, 2, none⟩ = some (.int .u16 4) := blk_cell HG6.out 2
  have d0 : w6.cell? ⟨h, 0, none⟩ = some (.int .u16 8) := blk_cell HH6.out 0
  have d1 : w6.cell? ⟨h, 1, none⟩ = some (.int .u8 2) := blk_cell HH6.out 1
  have d2 : w6.cell? ⟨h, 2, none⟩ = some (.int .u16 4) := blk_cell HH6.out 2
  have e3 : w6.cell? ⟨k, 3, none⟩ = some (.int .u16 2) := blk_cell HX6.out 3
  have HC := hide (ecmp_any ⟨8, 2, 4⟩ ⟨0, 0, 0⟩ w6)
  rw [show Ep.cmp ⟨8, 2, 4⟩ ⟨0, 0, 0⟩ = 1 by decide] at HC
  unfold Ep.v at HC
  simp only at HC
  go_wp2_with fail
  refine HC.out.mono ?_
  rintro e w7 ⟨rfl, b7⟩
  have hg7 := (b7.block _ (Array.getElem?_eq_some_iff.1 HG6.out).1).trans HG6.out
  have B7 := hide (B6.out.trans (b7.mono B6.out.size))
  clear c0 c1 c2 d0 d1 d2 e3 b7 HC
  have c0 : w7.cell? ⟨g, 0, none⟩ = some (.int .u16 8) := blk_cell hg7 0
  have c1 : w7.cell? ⟨g, 1, none⟩ = some (.int .u8 2) := blk_cell hg7 1
  have c2 : w7.cell? ⟨g, 2, none⟩ = some (.int .u16 4) := blk_cell hg7 2
  have HT := hide (etext_any ⟨8, 2, 4⟩ ⟨by decide, by decide, by decide⟩ w7 (HE.out.below B7.out))
  rw [text_824, ofL_824] at HT
  unfold Ep.v at HT
  simp only at HT
  clear hg7
  go_wp2_with fail
  refine HT.out.mono ?_
  rintro e w8 ⟨rfl, b8⟩
  go_wp2
  go_ret
  exact ⟨rfl, B7.out.trans (b8.mono B7.out.size)⟩
end Go.Proofs.YtjmdkhjfjlodmaaDoor
