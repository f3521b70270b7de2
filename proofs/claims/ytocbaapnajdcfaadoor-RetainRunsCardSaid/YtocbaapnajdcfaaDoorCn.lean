/- The reference of layer 7: Newest. -/
import Derived.Test.YtocbaapnajdcfaaDoorCt
import Derived.Deep.CutRange
namespace Go.Proofs.YtocbaapnajdcfaaDoor
open Go.RowKit
set_option linter.unusedVariables false
set_option linter.unusedSimpArgs false

theorem rwhole_any (s : ByteArray) (hs : s.size = 74) (w : World) : Calls Tryd.prog 38 #[.string s] w (WholeRes s.data.toList w) := by
  by_cases hy : numB (s.data.toList.take 1) = 165 ∧ numB ((s.data.toList.drop 7).take 1) ≤ 64
  · refine (rwhole_yes s hs hy.1 hy.2 w).mono ?_
    rintro e w' ⟨rfl, hb⟩
    exact ⟨recOf s.data.toList, recOf_ok hy.2, fun _ => rfl, rfl, hb⟩
  · refine (rwhole_no s hs hy w).mono ?_
    rintro e w' ⟨rfl, hb⟩
    have : wholeR s.data.toList = false := by
      unfold wholeR
      by_cases h0 : numB (s.data.toList.take 1) = 165
      · have h7 : ¬ numB ((s.data.toList.drop 7).take 1) ≤ 64 := fun h => hy ⟨h0, h⟩
        simp [h7]
      · simp [h0]
    refine ⟨Rec.zero, zero_ok, fun h => ?_, ?_, hb⟩
    · rw [this] at h; cases h
    · rw [this]; rfl

/-- Which slot is the newest, and its record. -/
def newestR (b : List UInt8) : Int × Rec :=
  if wholeR (b.take 74) && (!wholeR ((b.drop 74).take 74) || decide ((recOf ((b.drop 74).take 74)).seq ≤ (recOf (b.take 74)).seq)) then (0, recOf (b.take 74))
  else if wholeR ((b.drop 74).take 74) then (1, recOf ((b.drop 74).take 74)) else (-1, Rec.zero)

theorem newestR_ok (b : List UInt8) : (newestR b).2.ok := by
  have h : ∀ l, wholeR l = true → (recOf l).ok := fun l hl => recOf_ok (by
    unfold wholeR at hl
    simp only [Bool.and_eq_true, decide_eq_true_eq] at hl
    exact hl.1.2)
  unfold newestR
  split
  · rename_i hc
    rw [Bool.and_eq_true] at hc
    exact h _ hc.1
  · split
    · exact h _ (by assumption)
    · exact zero_ok

theorem rec_put {B b : Nat} {a w : World} {x y z : Value} (h : w.heap[b]? = some (.cells #[x, y, z] 25 (0, 0))) (hb : Below B a w) (hB : B ≤ b) (u v t : Value) :
    (((w.setCell ⟨b, 0, none⟩ u).setCell ⟨b, 1, none⟩ v).setCell ⟨b, 2, none⟩ t).heap[b]? = some (.cells #[u, v, t] 25 (0, 0)) ∧ Below B a (((w.setCell ⟨b, 0, none⟩ u).setCell ⟨b, 1, none⟩ v).setCell ⟨b, 2, none⟩ t) :=
  ⟨set_heap (set_heap (set_heap h 0 u) 1 v) 2 t, ((hb.setCell (p := ⟨b, 0, none⟩) hB u).setCell (p := ⟨b, 1, none⟩) hB v).setCell (p := ⟨b, 2, none⟩) hB t⟩

set_option maxHeartbeats 1000000 in
theorem rnewest_any (s : ByteArray) (hs : 148 ≤ s.size) (hs2 : s.size ≤ 1000) (w : World) :
    Calls Tryd.prog 32 #[.string s] w fun e w' => e = .returned (.tuple #[.int .i64 (newestR s.data.toList).1, .agg (newestR s.data.toList).2.v]) ∧ Below w.heap.size w w' := by
  have ls := size_data s
  obtain ⟨l, hl⟩ : ∃ l, s.data.toList = l := ⟨_, rfl⟩
  rw [hl] at ls ⊢
  have ex1 : s.extract 0 74 = ofL (l.take 74) := by
    apply ofL_eq
    rw [data_extract, hl]; simp
  have ex2 : s.extract 74 148 = ofL ((l.drop 74).take 74) := by
    apply ofL_eq
    rw [data_extract, hl]
  have y1 : (ofL (l.take 74)).size = 74 := by rw [ofL_size, List.length_take]; omega
  have y2 : (ofL ((l.drop 74).take 74)).size = 74 := by rw [ofL_size, List.length_take, List.length_drop]; omega
  have i1 : (74 : Int) ≤ (s.size : Int) := by omega
  have i2 : (148 : Int) ≤ (s.size : Int) := by omega
  have HA := fun W => rwhole_any (ofL (l.take 74)) y1 W
  have HB := fun W => rwhole_any (ofL ((l.drop 74).take 74)) y2 W
  rw [ofL_data] at HA HB
  have hnew : newestR l = (if wholeR (l.take 74) && (!wholeR ((l.drop 74).take 74) || decide ((recOf ((l.drop 74).take 74)).seq ≤ (recOf (l.take 74)).seq)) then (0, recOf (l.take 74))
    else if wholeR ((l.drop 74).take 74) then (1, recOf ((l.drop 74).take 74)) else (-1, Rec.zero)) := rfl
  rw [hnew]
  generalize l.take 74 = la at *
  generalize (l.drop 74).take 74 = lb at *
  obtain ⟨A, hA⟩ : ∃ A : Int × Rec, (if wholeR la && (!wholeR lb || decide ((recOf lb).seq ≤ (recOf la).seq)) then (0, recOf la) else if wholeR lb then (1, recOf lb) else (-1, Rec.zero)) = A := ⟨_, rfl⟩
  rw [hA]
  have HAH := hide HA; have HBH := hide HB; have HANS := hide hA
  clear HA HB hA y1 y2 hnew hl ls hs hs2
  have HX1 := hide ex1; have HX2 := hide ex2
  go_enter Tryd.func32, Tryd.ntmps32
  go_wp2_with fail
  refine (HAH.out _).mono ?_
  rintro e w1 ⟨R1, ok1, hr1, rfl, b1⟩
  unfold Rec.v
  obtain ⟨x, hx⟩ : ∃ x, wholeR la = x := ⟨_, rfl⟩
  rw [hx] at hr1 HANS ⊢
  have HR1 := hide hr1
  have hb1 : w1.heap[w.heap.size]? = some (.cells #[.int .u32 0, .int .u16 0, .string ⟨#[]⟩] 25 (0, 0)) := (b1.block _ (by simp)).trans (heap_alloc_new w _)
  have bw1 := box_below b1
  clear hr1 hx b1
  go_wp2_with fail
  obtain ⟨w2, hw2⟩ : ∃ w2, w1.alloc (.cells #[.int .u32 R1.seq, .int .u16 R1.inc, .string (ofL R1.data)] 25) = w2 := ⟨_, rfl⟩
  obtain ⟨q, hq⟩ : ∃ q, w1.heap.size = q := ⟨_, rfl⟩
  have hb2 : w2.heap[w.heap.size]? = some (.cells #[.int .u32 0, .int .u16 0, .string ⟨#[]⟩] 25 (0, 0)) := by rw [← hw2]; exact old_alloc hb1 _
  have hr2 : w2.heap[q]? = some (.cells #[.int .u32 R1.seq, .int .u16 R1.inc, .string (ofL R1.data)] 25 (0, 0)) := by rw [← hw2, ← hq]; exact heap_alloc_new w1 _
  have bw2 : Below w.heap.size w w2 := by rw [← hw2]; exact bw1.alloc bw1.size _
  have hq1 : w.heap.size < q := by rw [← hq]; exact (Array.getElem?_eq_some_iff.1 hb1).1
  rw [hw2, hq]
  clear hw2 hq hb1 bw1
  refine (HBH.out _).mono ?_
  rintro e w3 ⟨R2, ok2, hr3, rfl, b3⟩
  unfold Rec.v
  obtain ⟨y, hy⟩ : ∃ y, wholeR lb = y := ⟨_, rfl⟩
  rw [hy] at hr3 HANS ⊢
  have hb3 := (b3.block _ (Array.getElem?_eq_some_iff.1 hb2).1).trans hb2
  have hq3 := (b3.block _ (Array.getElem?_eq_some_iff.1 hr2).1).trans hr2
  have bw3 := bw2.trans (b3.mono bw2.size)
  obtain ⟨p, hp⟩ : ∃ p, w3.heap.size = p := ⟨_, rfl⟩
  have hp1 : q < p := by rw [← hp]; exact (Array.getElem?_eq_some_iff.1 hq3).1
  obtain ⟨w4, hw4⟩ : ∃ w4, w3.alloc (.cells #[.int .u32 R2.seq, .int .u16 R2.inc, .string (ofL R2.data)] 25) = w4 := ⟨_, rfl⟩
  have hb4 : w4.heap[w.heap.size]? = some (.cells #[.int .u32 0, .int .u16 0, .string ⟨#[]⟩] 25 (0, 0)) := by rw [← hw4]; exact old_alloc hb3 _
  have hq4 : w4.heap[q]? = some (.cells #[.int .u32 R1.seq, .int .u16 R1.inc, .string (ofL R1.data)] 25 (0, 0)) := by rw [← hw4]; exact old_alloc hq3 _
  have hp4 : w4.heap[p]? = some (.cells #[.int .u32 R2.seq, .int .u16 R2.inc, .string (ofL R2.data)] 25 (0, 0)) := by rw [← hw4, ← hp]; exact heap_alloc_new w3 _
  have bw4 : Below w.heap.size w w4 := by rw [← hw4]; exact bw3.alloc bw3.size _
  have hx1 : x = true → recOf la = R1 := fun h => (HR1.out h).symm
  have hy1 : y = true → recOf lb = R2 := fun h => (hr3 h).symm
  have c0 : w4.cell? ⟨q, 0, none⟩ = some (.int .u32 R1.seq) := blk_cell hq4 0
  have c1 : w4.cell? ⟨q, 1, none⟩ = some (.int .u16 R1.inc) := blk_cell hq4 1
  have c2 : w4.cell? ⟨q, 2, none⟩ = some (.string (ofL R1.data)) := blk_cell hq4 2
  have d0 : w4.cell? ⟨p, 0, none⟩ = some (.int .u32 R2.seq) := blk_cell hp4 0
  have d1 : w4.cell? ⟨p, 1, none⟩ = some (.int .u16 R2.inc) := blk_cell hp4 1
  have d2 : w4.cell? ⟨p, 2, none⟩ = some (.string (ofL R2.data)) := blk_cell hp4 2
  have e0 : w4.cell? ⟨w.heap.size, 0, none⟩ = some (.int .u32 0) := blk_cell hb4 0
  have e1 : w4.cell? ⟨w.heap.size, 1, none⟩ = some (.int .u16 0) := blk_cell hb4 1
  have e2 : w4.cell? ⟨w.heap.size, 2, none⟩ = some (.string ⟨#[]⟩) := blk_cell hb4 2
  have g0 : w4.frozen? ⟨w.heap.size, 0, none⟩ = false := blk_frozen hb4 0
  have g1 : w4.frozen? ⟨w.heap.size, 1, none⟩ = false := blk_frozen hb4 1
  have g2 : w4.frozen? ⟨w.heap.size, 2, none⟩ = false := blk_frozen hb4 2
  have HB4 := hide hb4; have BW4 := hide bw4; have HW4 := hide hw4; have HP := hide hp
  clear hb4 bw4 hb2 hb3 hr2 hq3 hq4 hp4 bw2 bw3 b3 hr3 HR1 hw4 hp hy ok1 ok2
  have HX := hide hx1; have HY := hide hy1
  clear hx1 hy1
  have key : ∀ (k : Int) (R : Rec) (W : World), A = (k, R) → W.heap[w.heap.size]? = some (.cells #[.int .u32 R.seq, .int .u16 R.inc, .string (ofL R.data)] 25 (0, 0)) → Below w.heap.size w W → True := fun _ _ _ _ _ _ => trivial
  clear key
  cases x with
  | true =>
    cases y with
    | true =>
      by_cases hle : R2.seq ≤ R1.seq
      · have hd : decide (R2.seq ≤ R1.seq) = true := by simpa using hle
        -- hle
        have hA : A = (0, R1) := by
          have h := HANS.out
          rw [HX.out rfl, HY.out rfl] at h
          rw [← h]
          simp [hle]
        subst hA
        go_upto_region 3 with (fail)
        rw [HP.out, HW4.out]
        go_wp2_with fail
        go_region
        go_wp2_with fail
        obtain ⟨hb8, b8⟩ := rec_put HB4.out BW4.out (Nat.le_refl _) (.int .u32 R1.seq) (.int .u16 R1.inc) (.string (ofL R1.data))
        replace b8 := below_drewN b8 1
        generalize ((w4.setCell ⟨w.heap.size, 0, none⟩ (.int .u32 R1.seq)).setCell ⟨w.heap.size, 1, none⟩ (.int .u16 R1.inc)).setCell ⟨w.heap.size, 2, none⟩ (.string (ofL R1.data)) = W8 at hb8 b8 ⊢
        have c80 : W8.cell? ⟨w.heap.size, 0, none⟩ = some (.int .u32 R1.seq) := blk_cell hb8 0
        have c81 : W8.cell? ⟨w.heap.size, 1, none⟩ = some (.int .u16 R1.inc) := blk_cell hb8 1
        have c82 : W8.cell? ⟨w.heap.size, 2, none⟩ = some (.string (ofL R1.data)) := blk_cell hb8 2
        exact bodyPost_ret (v := .tuple #[.int .i64 (0), .agg #[.int .u32 R1.seq, .int .u16 R1.inc, .string (ofL R1.data)]]) (by simp [results, Tryd.results32, go_sem, c80, c81, c82]) rfl ⟨rfl, b8⟩
      · have hd : decide (R2.seq ≤ R1.seq) = false := by simpa using hle
        -- hle
        have hA : A = (1, R2) := by
          have h := HANS.out
          rw [HX.out rfl, HY.out rfl] at h
          rw [← h]
          simp [hle]
        subst hA
        go_upto_region 3 with (fail)
        rw [HP.out, HW4.out]
        go_wp2_with fail
        go_region
        go_wp2_with fail
        obtain ⟨hb8, b8⟩ := rec_put HB4.out BW4.out (Nat.le_refl _) (.int .u32 R2.seq) (.int .u16 R2.inc) (.string (ofL R2.data))
        replace b8 := below_drewN b8 1
        generalize ((w4.setCell ⟨w.heap.size, 0, none⟩ (.int .u32 R2.seq)).setCell ⟨w.heap.size, 1, none⟩ (.int .u16 R2.inc)).setCell ⟨w.heap.size, 2, none⟩ (.string (ofL R2.data)) = W8 at hb8 b8 ⊢
        have c80 : W8.cell? ⟨w.heap.size, 0, none⟩ = some (.int .u32 R2.seq) := blk_cell hb8 0
        have c81 : W8.cell? ⟨w.heap.size, 1, none⟩ = some (.int .u16 R2.inc) := blk_cell hb8 1
        have c82 : W8.cell? ⟨w.heap.size, 2, none⟩ = some (.string (ofL R2.data)) := blk_cell hb8 2
        exact bodyPost_ret (v := .tuple #[.int .i64 (1), .agg #[.int .u32 R2.seq, .int .u16 R2.inc, .string (ofL R2.data)]]) (by simp [results, Tryd.results32, go_sem, c80, c81, c82]) rfl ⟨rfl, b8⟩
    | false =>
      have hA : A = (0, R1) := by
        have h := HANS.out
        rw [HX.out rfl] at h
        rw [← h]
        simp
      subst hA
      go_upto_region 3 with (fail)
      rw [HP.out, HW4.out]
      go_wp2_with fail
      go_region
      go_wp2_with fail
      obtain ⟨hb8, b8⟩ := rec_put HB4.out BW4.out (Nat.le_refl _) (.int .u32 R1.seq) (.int .u16 R1.inc) (.string (ofL R1.data))
      replace b8 := below_drewN b8 1
      generalize ((w4.setCell ⟨w.heap.size, 0, none⟩ (.int .u32 R1.seq)).setCell ⟨w.heap.size, 1, none⟩ (.int .u16 R1.inc)).setCell ⟨w.heap.size, 2, none⟩ (.string (ofL R1.data)) = W8 at hb8 b8 ⊢
      have c80 : W8.cell? ⟨w.heap.size, 0, none⟩ = some (.int .u32 R1.seq) := blk_cell hb8 0
      have c81 : W8.cell? ⟨w.heap.size, 1, none⟩ = some (.int .u16 R1.inc) := blk_cell hb8 1
      have c82 : W8.cell? ⟨w.heap.size, 2, none⟩ = some (.string (ofL R1.data)) := blk_cell hb8 2
      exact bodyPost_ret (v := .tuple #[.int .i64 (0), .agg #[.int .u32 R1.seq, .int .u16 R1.inc, .string (ofL R1.data)]]) (by simp [results, Tryd.results32, go_sem, c80, c81, c82]) rfl ⟨rfl, b8⟩
  | false =>
    cases y with
    | true =>
      have hA : A = (1, R2) := by
        have h := HANS.out
        rw [HY.out rfl] at h
        rw [← h]
        simp
      subst hA
      go_upto_region 3 with (fail)
      rw [HP.out, HW4.out]
      go_wp2_with fail
      go_region
      go_wp2_with fail
      obtain ⟨hb8, b8⟩ := rec_put HB4.out BW4.out (Nat.le_refl _) (.int .u32 R2.seq) (.int .u16 R2.inc) (.string (ofL R2.data))
      replace b8 := below_drewN b8 1
      generalize ((w4.setCell ⟨w.heap.size, 0, none⟩ (.int .u32 R2.seq)).setCell ⟨w.heap.size, 1, none⟩ (.int .u16 R2.inc)).setCell ⟨w.heap.size, 2, none⟩ (.string (ofL R2.data)) = W8 at hb8 b8 ⊢
      have c80 : W8.cell? ⟨w.heap.size, 0, none⟩ = some (.int .u32 R2.seq) := blk_cell hb8 0
      have c81 : W8.cell? ⟨w.heap.size, 1, none⟩ = some (.int .u16 R2.inc) := blk_cell hb8 1
      have c82 : W8.cell? ⟨w.heap.size, 2, none⟩ = some (.string (ofL R2.data)) := blk_cell hb8 2
      exact bodyPost_ret (v := .tuple #[.int .i64 (1), .agg #[.int .u32 R2.seq, .int .u16 R2.inc, .string (ofL R2.data)]]) (by simp [results, Tryd.results32, go_sem, c80, c81, c82]) rfl ⟨rfl, b8⟩
    | false =>
      have hA : A = (-1, Rec.zero) := by
        have h := HANS.out
        skip
        rw [← h]
        simp
      subst hA
      go_upto_region 3 with (fail)
      rw [HP.out, HW4.out]
      go_wp2_with fail
      obtain ⟨hb8, b8⟩ := rec_put HB4.out BW4.out (Nat.le_refl _) (.int .u32 0) (.int .u16 0) (.string ⟨#[]⟩)
      generalize ((w4.setCell ⟨w.heap.size, 0, none⟩ (.int .u32 0)).setCell ⟨w.heap.size, 1, none⟩ (.int .u16 0)).setCell ⟨w.heap.size, 2, none⟩ (.string ⟨#[]⟩) = W8 at hb8 b8 ⊢
      have c80 : W8.cell? ⟨w.heap.size, 0, none⟩ = some (.int .u32 0) := blk_cell hb8 0
      have c81 : W8.cell? ⟨w.heap.size, 1, none⟩ = some (.int .u16 0) := blk_cell hb8 1
      have c82 : W8.cell? ⟨w.heap.size, 2, none⟩ = some (.string ⟨#[]⟩) := blk_cell hb8 2
      exact bodyPost_ret (v := .tuple #[.int .i64 (-1), .agg #[.int .u32 0, .int .u16 0, .string ⟨#[]⟩]]) (by simp [results, Tryd.results32, go_sem, c80, c81, c82]) rfl ⟨rfl, b8⟩
end Go.Proofs.YtocbaapnajdcfaaDoor
