/- The walk of retain.newest and retain.Load. -/
import Derived.Test.YtocbaapnajdcfaaDoorPa
import Derived.Test.YtocbaapnajdcfaaDoorSto
namespace Go.Proofs.YtocbaapnajdcfaaDoor
open Go.RowKit
set_option linter.unusedVariables false
set_option linter.unusedSimpArgs false
attribute [local go_sem] ofL_toList

def slot0 (b : List UInt8) : List UInt8 := b.take 74
def slot1 (b : List UInt8) : List UInt8 := (b.drop 74).take 74
/-- The newest record, as the program tells it. -/
def newestP (b : List UInt8) : Int × Rec × Bool :=
  if b.length < 148 then (0, Rec.zero, false)
  else if wholeP (slot1 b) = true ∧ (wholeP (slot0 b) = false ∨ (recOf (slot0 b)).seq < (recOf (slot1 b)).seq) then (1, recOf (slot1 b), true)
  else if wholeP (slot0 b) = true then (0, recOf (slot0 b), true)
  else (0, Rec.zero, false)
/-- How far it has come behind k rounds. -/
def stP (b : List UInt8) (k : Nat) : Int × Rec × Bool :=
  if k = 0 then (0, Rec.zero, false)
  else if k = 1 then (if wholeP (slot0 b) = true then (0, recOf (slot0 b), true) else (0, Rec.zero, false))
  else newestP b

def RecB (w : World) (g : Nat) (r : Rec) : Prop := w.heap[g]? = some (.cells #[.int .u32 r.seq, .int .u16 r.inc, .string (ofL r.data)] 25 (0, 0))
def NewRel (w : World) (b : List UInt8) (v5 v7 v14 : Value) (wr : World) : Prop :=
  ∃ k : Nat, k ≤ 2 ∧ 74 * k ≤ b.length ∧ v14 = .int .i64 k ∧ ∃ (i : Int) (R : Rec) (f : Bool), stP b k = (i, R, f) ∧ v5 = .int .i64 i ∧ v7 = .bool f ∧ RecB wr (w.heap.size + 1) R ∧ RecB wr w.heap.size Rec.zero ∧ Below w.heap.size w wr

theorem recB_put {B b : Nat} {a w : World} {R : Rec} (h : RecB w b R) (hb : Below B a w) (hB : B ≤ b) (r : Rec) :
    RecB (((w.setCell ⟨b, 0, none⟩ (.int .u32 r.seq)).setCell ⟨b, 1, none⟩ (.int .u16 r.inc)).setCell ⟨b, 2, none⟩ (.string (ofL r.data))) b r ∧ Below B a (((w.setCell ⟨b, 0, none⟩ (.int .u32 r.seq)).setCell ⟨b, 1, none⟩ (.int .u16 r.inc)).setCell ⟨b, 2, none⟩ (.string (ofL r.data))) :=
  rec_put h hb hB _ _ _
theorem recB_other {b b' : Nat} {w : World} {R : Rec} (h : RecB w b' R) (hne : b' ≠ b) (u v t : Value) : RecB (((w.setCell ⟨b, 0, none⟩ u).setCell ⟨b, 1, none⟩ v).setCell ⟨b, 2, none⟩ t) b' R := by
  unfold RecB at h ⊢
  rw [set_other _ _ hne, set_other _ _ hne, set_other _ _ hne]
  exact h
theorem recB_below {b B : Nat} {w w' : World} {R : Rec} (h : RecB w b R) (hb : Below B w w') (hB : w.heap.size ≤ B) : RecB w' b R :=
  (hb.block b (Nat.lt_of_lt_of_le (Array.getElem?_eq_some_iff.1 h).1 hB)).trans h
theorem recB_lt {b : Nat} {w : World} {R : Rec} (h : RecB w b R) : b < w.heap.size := (Array.getElem?_eq_some_iff.1 h).1

def slotK (b : List UInt8) (k : Nat) : List UInt8 := (b.drop (74 * k)).take 74
theorem stP_no {b : List UInt8} {k : Nat} (hk : k < 2) (hl : 74 * k + 74 ≤ b.length) (hx : wholeP (slotK b k) = false) : stP b (k + 1) = stP b k := by
  have h : k = 0 ∨ k = 1 := by omega
  rcases h with rfl | rfl
  · have : wholeP (slot0 b) = false := hx
    simp [stP, this]
  · have : wholeP (slot1 b) = false := hx
    have hn : ¬ b.length < 148 := by omega
    simp [stP, newestP, this, hn]
theorem stP_yes {b : List UInt8} {k : Nat} (hk : k < 2) (hl : 74 * k + 74 ≤ b.length) (hx : wholeP (slotK b k) = true) {i : Int} {R : Rec} {f : Bool} (hs : stP b k = (i, R, f)) (h : f = false ∨ R.seq < (recOf (slotK b k)).seq) :
    stP b (k + 1) = ((k : Int), recOf (slotK b k), true) := by
  have hh : k = 0 ∨ k = 1 := by omega
  rcases hh with rfl | rfl
  · have : wholeP (slot0 b) = true := hx
    simp [stP, this]
    rfl
  · have h1 : wholeP (slot1 b) = true := hx
    have hn : ¬ b.length < 148 := by omega
    simp only [stP] at hs
    have hc : wholeP (slot1 b) = true ∧ (wholeP (slot0 b) = false ∨ (recOf (slot0 b)).seq < (recOf (slot1 b)).seq) := by
      refine ⟨h1, ?_⟩
      cases h0 : wholeP (slot0 b) with
      | false => exact .inl rfl
      | true =>
        rw [h0] at hs
        simp at hs
        obtain ⟨_, rfl, rfl⟩ := hs
        rcases h with h | h
        · cases h
        · exact .inr h
    have e : stP b (1 + 1) = newestP b := rfl
    rw [e]
    unfold newestP
    rw [if_neg hn, if_pos hc]
    rfl
theorem stP_keep {b : List UInt8} {k : Nat} (hk : k < 2) (hl : 74 * k + 74 ≤ b.length) {i : Int} {R : Rec} (hs : stP b k = (i, R, true)) (h : ¬ R.seq < (recOf (slotK b k)).seq) : stP b (k + 1) = stP b k := by
  have hh : k = 0 ∨ k = 1 := by omega
  rcases hh with rfl | rfl
  · simp [stP] at hs
  · have hn : ¬ b.length < 148 := by omega
    have hs2 := hs
    simp only [stP] at hs
    cases h0 : wholeP (slot0 b) with
    | false => rw [h0] at hs; simp at hs
    | true =>
      rw [h0] at hs
      simp at hs
      obtain ⟨_, rfl⟩ := hs
      have hc : ¬ (wholeP (slot1 b) = true ∧ (wholeP (slot0 b) = false ∨ (recOf (slot0 b)).seq < (recOf (slot1 b)).seq)) := by
        rintro ⟨_, h1 | h1⟩
        · rw [h0] at h1; cases h1
        · exact h h1
      have e : stP b (1 + 1) = newestP b := rfl
      rw [e]
      unfold newestP
      rw [if_neg hn, if_neg hc]
      rfl

set_option maxRecDepth 100000 in
set_option maxHeartbeats 4000000 in
theorem newest_any {w : World} {g h cap : Nat} {s : St} (k : StAt w g h cap s) :
    Calls Tryd.prog 25 #[.pointer (some ⟨g, 0, none⟩)] w fun e w' => e = .returned (.tuple #[.int .i64 (newestP s.b).1, .agg (newestP s.b).2.1.v, .bool (newestP s.b).2.2]) ∧ Below w.heap.size w w' := by
  have K := hide k
  have hsm := k.small
  clear k
  obtain ⟨b, hb⟩ : ∃ b, s.b = b := ⟨_, rfl⟩
  rw [hb] at hsm ⊢
  obtain ⟨A, hA⟩ : ∃ A, newestP b = A := ⟨_, rfl⟩
  rw [hA]
  have HA := hide hA; have HB := hide hb
  clear hb hA
  go_enter Tryd.func25, Tryd.ntmps25
  go_wp2_with fail
  go_loopw [5, 7, 14] (fun v5 v7 v14 wr => NewRel w b v5 v7 v14 wr) (fun _ _ i _ => 2 - (intOf i).toNat)
  case atStart =>
    refine ⟨0, by omega, by omega, rfl, 0, Rec.zero, false, rfl, rfl, rfl, ?_, ?_, ?_⟩
    · exact heap_alloc2_new w _ _
    · exact old_alloc (heap_alloc_new w _) _
    · exact ((Below.refl _ _).alloc (Nat.le_refl _) _).alloc (by simp) _
  case round =>
    obtain ⟨k, hk, hkl, rfl, i, R, f, hst, rfl, rfl, hr1, hr0, hbw⟩ := hrel
    have KR := hide (K.out.below hbw)
    have HST := hide hst; have HR1 := hide hr1; have HR0 := hide hr0; have HBW := hide hbw
    have lt1 := recB_lt hr1
    clear hst hr1 hr0 hbw
    have e0 : wr.cell? ⟨w.heap.size, 0, none⟩ = some (.int .u32 0) := blk_cell HR0.out 0
    have e1 : wr.cell? ⟨w.heap.size, 1, none⟩ = some (.int .u16 0) := blk_cell HR0.out 1
    have e2 : wr.cell? ⟨w.heap.size, 2, none⟩ = some (.string ⟨#[]⟩) := blk_cell HR0.out 2
    have g0 : wr.frozen? ⟨w.heap.size, 0, none⟩ = false := blk_frozen HR0.out 0
    have g1 : wr.frozen? ⟨w.heap.size, 1, none⟩ = false := blk_frozen HR0.out 1
    have g2 : wr.frozen? ⟨w.heap.size, 2, none⟩ = false := blk_frozen HR0.out 2
    by_cases hlt : k < 2
    · by_cases hlen : 74 * k + 74 ≤ b.length
      · clear e0 e1 e2 g0 g1 g2
        obtain ⟨S, hS⟩ : ∃ S, slotK b k = S := ⟨_, rfl⟩
        have hSl : S.length = 74 := by rw [← hS]; simp [slotK]; omega
        have HRD := hide (read_to KR.out ((k : Int) * 74) 74 ⟨by omega, by rw [HB.out]; omega, by omega, by rw [HB.out]; omega⟩ (l := S) (by rw [HB.out, ← hS, show ((k : Int) * 74).toNat = 74 * k by omega]; rfl))
        have HP := hide (fun W => parse_any (ofL S) (by rw [ofL_size]; exact hSl) W)
        rw [ofL_data] at HP
        obtain ⟨x, hx⟩ : ∃ x, wholeP S = x := ⟨_, rfl⟩
        rw [hx] at HP
        have HS := hide hS; have HXX := hide hx
        clear hS hSl hx
        cases x with
        | false =>
          have hnx : stP b (k + 1) = (i, R, f) := by rw [stP_no hlt hlen (by rw [HS.out]; exact HXX.out)]; exact HST.out
          have HNX := hide hnx; have HLEN := hide hlen
          clear hnx hlen
          simp only [Bool.false_eq_true, if_false] at HP
          go_wp2_with fail
          refine HRD.out.mono ?_
          rintro e w' ⟨rfl, rfl⟩
          go_wp2_with fail
          refine (HP.out _).mono ?_
          rintro e w2 ⟨rfl, b2⟩
          have hr1 := recB_below HR1.out b2 (Nat.le_refl _)
          have hr0 := recB_below HR0.out b2 (Nat.le_refl _)
          have bw := HBW.out.trans (b2.mono HBW.out.size)
          unfold Rec.v Rec.zero
          go_wp2_with fail
          go_roundw
          case rel => exact ⟨k + 1, by omega, by have := HLEN.out; omega, by go_num, i, R, f, HNX.out, rfl, rfl, old_alloc hr1 _, old_alloc hr0 _, bw.alloc bw.size _⟩
          case measure => simp [intOf]; omega
        | true =>
          simp only [if_true] at HP
          obtain ⟨T, hT⟩ : ∃ T, recOf S = T := ⟨_, rfl⟩
          rw [hT] at HP
          have HT := hide hT
          clear hT
          go_wp2_with fail
          refine HRD.out.mono ?_
          rintro e w' ⟨rfl, rfl⟩
          go_wp2_with fail
          refine (HP.out _).mono ?_
          rintro e w2 ⟨rfl, b2⟩
          have hr1 := recB_below HR1.out b2 (Nat.le_refl _)
          have hr0 := recB_below HR0.out b2 (Nat.le_refl _)
          have bw := HBW.out.trans (b2.mono HBW.out.size)
          unfold Rec.v
          obtain ⟨q, hq⟩ : ∃ q, w2.heap.size = q := ⟨_, rfl⟩
          obtain ⟨w3, hw3⟩ : ∃ w3, w2.alloc (.cells #[.int .u32 T.seq, .int .u16 T.inc, .string (ofL T.data)] 25) = w3 := ⟨_, rfl⟩
          have hr13 : RecB w3 (w.heap.size + 1) R := by rw [← hw3]; exact old_alloc hr1 _
          have hr03 : RecB w3 w.heap.size Rec.zero := by rw [← hw3]; exact old_alloc hr0 _
          have hrq3 : RecB w3 q T := by rw [← hw3, ← hq]; exact heap_alloc_new w2 _
          have bw3 : Below w.heap.size w w3 := by rw [← hw3]; exact bw.alloc bw.size _
          have hlq : w.heap.size + 1 < q := by rw [← hq]; exact recB_lt hr1
          have HW3 := hide hw3; have HQ := hide hq
          clear hw3 hq hr1 hr0 bw b2
          go_upto_region 9 with (fail)
          rw [HQ.out, HW3.out]
          have c0 : w3.cell? ⟨q, 0, none⟩ = some (.int .u32 T.seq) := blk_cell hrq3 0
          have c1 : w3.cell? ⟨q, 1, none⟩ = some (.int .u16 T.inc) := blk_cell hrq3 1
          have c2 : w3.cell? ⟨q, 2, none⟩ = some (.string (ofL T.data)) := blk_cell hrq3 2
          have d0 : w3.cell? ⟨w.heap.size + 1, 0, none⟩ = some (.int .u32 R.seq) := blk_cell hr13 0
          have d1 : w3.cell? ⟨w.heap.size + 1, 1, none⟩ = some (.int .u16 R.inc) := blk_cell hr13 1
          have d2 : w3.cell? ⟨w.heap.size + 1, 2, none⟩ = some (.string (ofL R.data)) := blk_cell hr13 2
          have g0 : w3.frozen? ⟨w.heap.size + 1, 0, none⟩ = false := blk_frozen hr13 0
          have g1 : w3.frozen? ⟨w.heap.size + 1, 1, none⟩ = false := blk_frozen hr13 1
          have g2 : w3.frozen? ⟨w.heap.size + 1, 2, none⟩ = false := blk_frozen hr13 2
          have HR13 := hide hr13; have HR03 := hide hr03; have BW3 := hide bw3; have HLEN := hide hlen
          clear hr13 hr03 hrq3 bw3 hlen
          cases f with
          | false =>
            have hnx : stP b (k + 1) = ((k : Int), T, true) := by
              have := stP_yes hlt HLEN.out (by rw [HS.out]; exact HXX.out) HST.out (.inl rfl)
              rw [this, HS.out, HT.out]
            have HNX := hide hnx
            clear hnx
            go_wp2_with fail
            go_region
            go_wp2_with fail
            obtain ⟨hb9, b9⟩ := recB_put HR13.out BW3.out (by omega) T
            have hr9 := recB_other HR03.out (b := w.heap.size + 1) (by omega) (.int .u32 T.seq) (.int .u16 T.inc) (.string (ofL T.data))
            go_roundw
            case rel => exact ⟨k + 1, by omega, by have := HLEN.out; omega, by go_num, k, T, true, HNX.out, rfl, rfl, hb9, hr9, below_drewN b9 1⟩
            case measure => simp [intOf]; omega
          | true =>
            by_cases hgt : R.seq < T.seq
            · have hnx : stP b (k + 1) = ((k : Int), T, true) := by
                have := stP_yes hlt HLEN.out (by rw [HS.out]; exact HXX.out) HST.out (.inr (by rw [HS.out, HT.out]; exact hgt))
                rw [this, HS.out, HT.out]
              have HNX := hide hnx
              clear hnx
              have hd : decide (R.seq < T.seq) = true := by simpa using hgt
              go_wp2_with fail
              go_region
              go_wp2_with fail
              obtain ⟨hb9, b9⟩ := recB_put HR13.out BW3.out (by omega) T
              have hr9 := recB_other HR03.out (b := w.heap.size + 1) (by omega) (.int .u32 T.seq) (.int .u16 T.inc) (.string (ofL T.data))
              go_roundw
              case rel => exact ⟨k + 1, by omega, by have := HLEN.out; omega, by go_num, k, T, true, HNX.out, rfl, rfl, hb9, hr9, below_drewN b9 1⟩
              case measure => simp [intOf]; omega
            · have hnx : stP b (k + 1) = (i, R, true) := by
                rw [stP_keep hlt HLEN.out HST.out (by rw [HS.out, HT.out]; exact hgt)]; exact HST.out
              have HNX := hide hnx
              clear hnx
              have hd : decide (R.seq < T.seq) = false := by simpa using hgt
              clear hgt
              go_wp2_with fail
              go_roundw
              case rel => exact ⟨k + 1, by omega, by have := HLEN.out; omega, by go_num, i, R, true, HNX.out, rfl, rfl, HR13.out, HR03.out, BW3.out⟩
              case measure => simp [intOf]; omega
      · have HRD := hide (read_no KR.out ((k : Int) * 74) 74 (by rw [HB.out]; unfold There; omega))
        have hans : A = (0, Rec.zero, false) := by
          rw [← HA.out]
          unfold newestP
          rw [if_pos (by omega)]
        subst hans
        clear hlen
        go_wp2_with fail
        refine HRD.out.mono ?_
        rintro e w' ⟨rfl, rfl⟩
        go_wp2_with fail
        obtain ⟨hb9, b9⟩ := rec_put HR0.out HBW.out (Nat.le_refl _) (.int .u32 0) (.int .u16 0) (.string ⟨#[]⟩)
        generalize ((wr.setCell ⟨w.heap.size, 0, none⟩ (.int .u32 0)).setCell ⟨w.heap.size, 1, none⟩ (.int .u16 0)).setCell ⟨w.heap.size, 2, none⟩ (.string ⟨#[]⟩) = W8 at hb9 b9 ⊢
        have c80 : W8.cell? ⟨w.heap.size, 0, none⟩ = some (.int .u32 0) := blk_cell hb9 0
        have c81 : W8.cell? ⟨w.heap.size, 1, none⟩ = some (.int .u16 0) := blk_cell hb9 1
        have c82 : W8.cell? ⟨w.heap.size, 2, none⟩ = some (.string ⟨#[]⟩) := blk_cell hb9 2
        exact bodyPost_ret (v := .tuple #[.int .i64 0, .agg #[.int .u32 0, .int .u16 0, .string ⟨#[]⟩], .bool false]) (by simp [results, Tryd.results25, go_sem, c80, c81, c82]) rfl ⟨rfl, b9⟩
    · obtain rfl : k = 2 := by omega
      have hans : A = (i, R, f) := by rw [← HA.out]; exact HST.out
      subst hans
      have d0 : wr.cell? ⟨w.heap.size + 1, 0, none⟩ = some (.int .u32 R.seq) := blk_cell HR1.out 0
      have d1 : wr.cell? ⟨w.heap.size + 1, 1, none⟩ = some (.int .u16 R.inc) := blk_cell HR1.out 1
      have d2 : wr.cell? ⟨w.heap.size + 1, 2, none⟩ = some (.string (ofL R.data)) := blk_cell HR1.out 2
      go_wp2_with fail
      go_region
      go_wp2_with fail
      obtain ⟨hb9, b9⟩ := recB_put HR0.out HBW.out (Nat.le_refl _) R
      replace b9 := below_drewN b9 1
      generalize ((wr.setCell ⟨w.heap.size, 0, none⟩ (.int .u32 R.seq)).setCell ⟨w.heap.size, 1, none⟩ (.int .u16 R.inc)).setCell ⟨w.heap.size, 2, none⟩ (.string (ofL R.data)) = W8 at hb9 b9 ⊢
      have c80 : W8.cell? ⟨w.heap.size, 0, none⟩ = some (.int .u32 R.seq) := blk_cell hb9 0
      have c81 : W8.cell? ⟨w.heap.size, 1, none⟩ = some (.int .u16 R.inc) := blk_cell hb9 1
      have c82 : W8.cell? ⟨w.heap.size, 2, none⟩ = some (.string (ofL R.data)) := blk_cell hb9 2
      exact bodyPost_ret (v := .tuple #[.int .i64 i, .agg #[.int .u32 R.seq, .int .u16 R.inc, .string (ofL R.data)], .bool f]) (by simp [results, Tryd.results25, go_sem, c80, c81, c82]) rfl ⟨rfl, b9⟩

set_option maxRecDepth 100000 in
set_option maxHeartbeats 1000000 in
theorem load_any {w : World} {g h cap : Nat} {s : St} (k : StAt w g h cap s) :
    Calls Tryd.prog 12 #[.pointer (some ⟨g, 0, none⟩)] w fun e w' => e = .returned (.tuple #[.agg (newestP s.b).2.1.v, .bool (newestP s.b).2.2]) ∧ Below w.heap.size w w' := by
  have k1 := k.below ((Below.refl _ _).alloc (Nat.le_refl _) (.cells #[.int .u32 0, .int .u16 0, .string ⟨#[]⟩] 25))
  have HC := hide (newest_any k1)
  obtain ⟨i, R, f, hA⟩ : ∃ i R f, newestP s.b = (i, R, f) := ⟨_, _, _, rfl⟩
  rw [hA] at HC ⊢
  simp only at HC ⊢
  unfold Rec.v at HC ⊢
  clear k k1 hA
  go_enter Tryd.func12, Tryd.ntmps12
  go_wp2_with fail
  refine HC.out.mono ?_
  rintro e w1 ⟨rfl, b1⟩
  clear HC
  have hb1 : w1.heap[w.heap.size]? = some (.cells #[.int .u32 0, .int .u16 0, .string ⟨#[]⟩] 25 (0, 0)) := (b1.block _ (by simp)).trans (heap_alloc_new w _)
  have bw1 := box_below b1
  obtain ⟨q, hq⟩ : ∃ q, w1.heap.size = q := ⟨_, rfl⟩
  obtain ⟨w2, hw2⟩ : ∃ w2, w1.alloc (.cells #[.int .u32 R.seq, .int .u16 R.inc, .string (ofL R.data)] 25) = w2 := ⟨_, rfl⟩
  have hb2 : w2.heap[w.heap.size]? = some (.cells #[.int .u32 0, .int .u16 0, .string ⟨#[]⟩] 25 (0, 0)) := by rw [← hw2]; exact old_alloc hb1 _
  have hr2 : w2.heap[q]? = some (.cells #[.int .u32 R.seq, .int .u16 R.inc, .string (ofL R.data)] 25 (0, 0)) := by rw [← hw2, ← hq]; exact heap_alloc_new w1 _
  have bw2 : Below w.heap.size w w2 := by rw [← hw2]; exact bw1.alloc bw1.size _
  have hq1 : w.heap.size < q := by rw [← hq]; exact (Array.getElem?_eq_some_iff.1 hb1).1
  have HW2 := hide hw2; have HQ := hide hq
  clear hw2 hq b1 hb1 bw1
  go_upto_region 2 with (fail)
  rw [HQ.out, HW2.out]
  have c0 : w2.cell? ⟨q, 0, none⟩ = some (.int .u32 R.seq) := blk_cell hr2 0
  have c1 : w2.cell? ⟨q, 1, none⟩ = some (.int .u16 R.inc) := blk_cell hr2 1
  have c2 : w2.cell? ⟨q, 2, none⟩ = some (.string (ofL R.data)) := blk_cell hr2 2
  have e0 : w2.cell? ⟨w.heap.size, 0, none⟩ = some (.int .u32 0) := blk_cell hb2 0
  have e1 : w2.cell? ⟨w.heap.size, 1, none⟩ = some (.int .u16 0) := blk_cell hb2 1
  have e2 : w2.cell? ⟨w.heap.size, 2, none⟩ = some (.string ⟨#[]⟩) := blk_cell hb2 2
  have g0 : w2.frozen? ⟨w.heap.size, 0, none⟩ = false := blk_frozen hb2 0
  have g1 : w2.frozen? ⟨w.heap.size, 1, none⟩ = false := blk_frozen hb2 1
  have g2 : w2.frozen? ⟨w.heap.size, 2, none⟩ = false := blk_frozen hb2 2
  have HB2 := hide hb2; have BW2 := hide bw2
  clear hb2 bw2 hr2
  go_wp2_with fail
  obtain ⟨hb9, b9⟩ := rec_put HB2.out BW2.out (Nat.le_refl _) (.int .u32 R.seq) (.int .u16 R.inc) (.string (ofL R.data))
  generalize ((w2.setCell ⟨w.heap.size, 0, none⟩ (.int .u32 R.seq)).setCell ⟨w.heap.size, 1, none⟩ (.int .u16 R.inc)).setCell ⟨w.heap.size, 2, none⟩ (.string (ofL R.data)) = W8 at hb9 b9 ⊢
  have c80 : W8.cell? ⟨w.heap.size, 0, none⟩ = some (.int .u32 R.seq) := blk_cell hb9 0
  have c81 : W8.cell? ⟨w.heap.size, 1, none⟩ = some (.int .u16 R.inc) := blk_cell hb9 1
  have c82 : W8.cell? ⟨w.heap.size, 2, none⟩ = some (.string (ofL R.data)) := blk_cell hb9 2
  exact bodyPost_ret (v := .tuple #[.agg #[.int .u32 R.seq, .int .u16 R.inc, .string (ofL R.data)], .bool f]) (by simp [results, Tryd.results12, go_sem, c80, c81, c82]) rfl ⟨rfl, b9⟩
end Go.Proofs.YtocbaapnajdcfaaDoor
