/- The document's Commit, walked. -/
import Derived.Test.YtocbaapnajdcfaaDoorKg
namespace Go.Proofs.YtocbaapnajdcfaaDoor
open Go.RowKit
set_option linter.unusedVariables false
set_option linter.unusedSimpArgs false
attribute [local go_sem] ofL_toList

/-- The bytes behind a commit of which so many are written. -/
def commitR (b : List UInt8) (T : Rec) (most : Int) : List UInt8 × Bool :=
  if 0 ≤ most ∧ most < 75 then (cutL b (nextA (newestP b)) T most.toNat, false) else (cutL b (nextA (newestP b)) T 75, true)
theorem infoI : (Tryd.prog.info? 3).map (fun i => (i.zero, i.size, i.bytes)) = some (some (.int .i64 0), 1, 8) := by kernel_rfl
theorem new_i64 (w : World) (x : Int) : ∀ j u, [Value.int .i64 x][j]? = some u → (w.alloc (.cells #[.int .i64 x] 3)).cell? ((⟨w.heap.size, 0, none⟩ : Addr).add j) = some u := by
  intro j u h
  match j, h with
  | 0, h =>
    simp at h
    subst h
    exact blk_cell (heap_alloc_new w _) 0
theorem one_i64 (x : Int) : ∀ u ∈ [Value.int .i64 x], u.oneCell' = true := by
  intro u hu
  simp at hu
  subst hu
  rfl
theorem cells_places (l : List Nat) (i p : Nat) (h : l[i]? = some p) : (l.map fun n => Value.int .i64 (n : Nat))[i]? = some (.int .i64 (p : Nat)) := by rw [List.getElem?_map, h]; rfl
theorem cells_bytes (l : List UInt8) (i : Nat) (x : UInt8) (h : l[i]? = some x) : (cellsU l)[i]? = some (.int .u8 (x.toNat : Int)) := by rw [cellsU, List.getElem?_map, h]; rfl

def GRel (wh : World) (h : Nat) (S X : List UInt8) (A0 : Nat) (v12 v13 v15 : Value) (wr : World) : Prop :=
  ∃ k : Nat, k ≤ 73 ∧ v15 = .int .i64 k ∧ Gath wh wr h S (placesL A0 k) (0 :: X.take k) v12 v13
def WRel (wh : World) (h : Nat) (S : List UInt8) (P : List Nat) (Q : List UInt8) (v12 v13 : Value) (most : Int) (v16 : Value) (wr : World) : Prop :=
  ∃ k : Nat, k ≤ 75 ∧ v16 = .int .i64 k ∧ Gath wh wr h (stepsL S P Q k) P Q v12 v13 ∧ ¬ (0 ≤ most ∧ most < k)

set_option maxRecDepth 100000 in
set_option maxHeartbeats 4000000 in
theorem rcommit_any (s : ByteArray) (hs : 148 ≤ s.size) (hs2 : s.size ≤ 1000) (T : Rec) (ok : T.ok) (most : Int) (w : World) :
    Calls Tryd.prog 31 #[.string s, .agg T.v, .int .i64 most] w fun e w' => e = .returned (.tuple #[.string (ofL (commitR s.data.toList T most).1), .bool (commitR s.data.toList T most).2]) ∧ Below w.heap.size w w' := by
  obtain ⟨S, hS⟩ : ∃ S, s.data.toList = S := ⟨_, rfl⟩
  have hSl : S.length = s.size := by rw [← hS, size_data]
  have HN := hide (fun W => rnewest_any s hs hs2 W)
  have hnx := nextA_R (b := S) (by omega)
  obtain ⟨C, hC⟩ : ∃ C, commitR S T most = C := ⟨_, rfl⟩
  have hC0 := hC
  unfold commitR at hC
  obtain ⟨a, ha⟩ : ∃ a, nextA (newestP S) = a := ⟨_, rfl⟩
  rw [ha] at hnx hC
  obtain ⟨i, R, hR⟩ : ∃ i R, newestR S = (i, R) := ⟨_, _, rfl⟩
  rw [hS, hC0]
  rw [hS, hR] at HN
  rw [hR] at hnx
  simp only at hnx HN
  obtain ⟨A0, hA0⟩ : ∃ A0, 74 * a = A0 := ⟨_, rfl⟩
  have hA1 : A0 = if i = 0 then 74 else 0 := by rw [← hA0, hnx]; split <;> rfl
  have ha1 : a ≤ 1 := by rw [hnx]; split <;> omega
  have hsl := slotL_length ok
  obtain ⟨X, hX⟩ : ∃ X, slotL T = X := ⟨_, rfl⟩
  have HSL := hide (fun W => rslot_any T ok W)
  rw [hX] at HSL hsl
  have hST := steps_cut (b := S) (a := a) ok (by omega)
  rw [hX, hA0] at hST
  have HC := hide hC; have HST := hide hST; have HXL := hide hsl; have HSS := hide hS; have HSN := hide hSl
  clear hC hC0 hST hnx ha hA0 hR hX hS
  unfold Rec.v at HSL
  obtain ⟨i0, hi, hz0, hz1, hz2⟩ := info_parts infoU8'
  obtain ⟨j0, hj, hy0, hy1, hy2⟩ := info_parts infoI
  unfold Rec.v at HN ⊢
  have hx0 : (w.alloc (.cells #[.int .u32 T.seq, .int .u16 T.inc, .string (ofL T.data)] 25)).heap[w.heap.size]? = some (.cells #[.int .u32 T.seq, .int .u16 T.inc, .string (ofL T.data)] 25 (0, 0)) := heap_alloc_new w _
  have HX0 := hide hx0
  clear hx0
  go_enter Tryd.func31, Tryd.ntmps31
  go_wp2_with fail
  refine (HN.out _).mono ?_
  rintro e w1 ⟨rfl, b1⟩
  have hx1 := (b1.block _ (Array.getElem?_eq_some_iff.1 HX0.out).1).trans HX0.out
  have bw1 := box_below b1
  obtain ⟨w2, hw2⟩ : ∃ w2, w1.alloc (.cells #[.int .u32 R.seq, .int .u16 R.inc, .string (ofL R.data)] 25) = w2 := ⟨_, rfl⟩
  have HX2 := hide (show w2.heap[w.heap.size]? = some (.cells #[.int .u32 T.seq, .int .u16 T.inc, .string (ofL T.data)] 25 (0, 0)) by rw [← hw2]; exact old_alloc hx1 _)
  have BW2 := hide (show Below w.heap.size w w2 by rw [← hw2]; exact bw1.alloc bw1.size _)
  have HW2 := hide hw2
  clear hw2 hx1 bw1 b1 HX0 HN
  go_upto_if 23 with (fail)
  rw [HW2.out]
  go_cut [8] (fun v8 wc => v8 = .int .i64 (A0 : Nat) ∧ wc = w2)
  case first =>
    by_cases h0 : i = 0
    · rw [if_pos h0] at hA1
      subst hA1 h0
      go_wp2
      go_meet
      case rel => exact ⟨rfl, rfl⟩
    · rw [if_neg h0] at hA1
      subst hA1
      have hb : (i == 0) = false := by simpa using h0
      clear h0
      go_wp2
      go_meet
      case rel => exact ⟨rfl, rfl⟩
  case rest =>
    obtain ⟨rfl, rfl⟩ := hcut
    have hA74 : A0 ≤ 74 := by rw [hA1]; split <;> omega
    clear hA1
    have hcv := fun W : World => Lib.run_convert_string_bytes (P := Tryd.prog) W 9 28 5 s Tryd.underlying9 Tryd.underlying28 Tryd.underlying5
    have g0 := Gath.start wc s
    rw [HSS.out] at g0
    obtain ⟨h, hh⟩ : ∃ h, wc.heap.size = h := ⟨_, rfl⟩
    obtain ⟨w3, hw3⟩ : ∃ w3, Lib.bytesWorld wc 5 s = w3 := ⟨_, rfl⟩
    rw [hh, hw3] at g0
    have G0 := hide g0
    have HH := hide hh; have HW3 := hide hw3
    clear g0 hh hw3
    go_upto_region 8 with (fail)
    rw [HW3.out, HH.out]
    clear hcv
    have hg3 := G0.out.le
    go_upto_region 9 with (at_builtin; refine wpList_append_own _ rfl (.tmp 26) (.tmp 28) 73 rfl (h + 1) 3 j0 (.int .i64 0) 1 8 Tryd.underlying73 hj hy0 hy1 hy2 rfl (by decide) (.slice none 0 0) 0 _ rfl (G0.out.p.alloc _) ⟨w3.heap.size, 0, none⟩ 1 1 _ rfl rfl (new_i64 _ _) (one_i64 _) (by unfold maxLen; omega) (by omega) (by simp; omega) ?_; intro v12 w4 hown hgrow hnil; clear hnil; have G1 := hide (G0.out.p_add A0 hgrow hown); obtain ⟨A12, c12, rfl⟩ := own_slice hown; clear hown hgrow)
    have hg4 := G1.out.le
    go_upto_region 10 with (at_builtin; refine wpList_append_own _ rfl (.tmp 30) (.tmp 31) 28 rfl (h + 1) 5 i0 (.int .u8 0) 1 1 Tryd.underlying28 hi hz0 hz1 hz2 rfl (by decide) (.slice none 0 0) 0 _ rfl (G1.out.q.alloc _) ⟨w4.heap.size, 0, none⟩ 1 1 _ rfl rfl (new_u8 _ 0) (one_u8 0) (by unfold maxLen; omega) (by omega) (by simp; omega) ?_; intro v13 w5 hown hgrow hnil; clear hnil; have G2 := hide (G1.out.q_add 0 hgrow hown); obtain ⟨A13, c13, rfl⟩ := own_slice hown; clear hown hgrow)
    have hg5 := G2.out.le
    have hltx : w.heap.size < h := by rw [← HH.out]; exact (Array.getElem?_eq_some_iff.1 HX2.out).1
    have hx5 := (G2.out.bl.block w.heap.size hltx).trans HX2.out
    have c0 : w5.cell? ⟨w.heap.size, 0, none⟩ = some (.int .u32 T.seq) := blk_cell hx5 0
    have c1 : w5.cell? ⟨w.heap.size, 1, none⟩ = some (.int .u16 T.inc) := blk_cell hx5 1
    have c2 : w5.cell? ⟨w.heap.size, 2, none⟩ = some (.string (ofL T.data)) := blk_cell hx5 2
    clear hx5 hg3 hg4
    go_wp2_with fail
    refine (HSL.out _).mono ?_
    rintro e w6 ⟨rfl, b6⟩
    have G3 := hide (G2.out.below b6)
    have hXs := ofL_size X
    obtain ⟨SX, hSX⟩ : ∃ SX, ofL X = SX := ⟨_, rfl⟩
    rw [hSX] at hXs ⊢
    have hXget : ∀ (k : Nat) (hk : k < SX.size), X[k]? = some SX[k] := fun k hk => by
      subst hSX
      rw [ofL_size] at hk
      rw [List.getElem?_eq_getElem hk]
      rfl
    have hXn : SX.size = 73 := by rw [hXs, HXL.out]
    have HXN := hide hXn; have HXG := hide hXget
    clear b6 c0 c1 c2 hXget hXs hSX hsl G0 G1 hg5 HSL
    go_wp2_with fail
    go_loopw [12, 13, 15] (fun v12 v13 v15 wr => GRel wc h S X A0 v12 v13 v15 wr) (fun _ _ i _ => 73 - (intOf i).toNat)
    case atStart => exact ⟨0, by omega, rfl, by simpa [placesL] using G3.out⟩
    case round =>
      obtain ⟨k, hk, rfl, gr⟩ := hrel
      have GR := hide gr
      have hle := gr.le
      obtain ⟨n, hn⟩ : ∃ n, k + 1 = n := ⟨_, rfl⟩
      have hpl : (placesL A0 k).length = n := (placesL_length A0 k).trans hn
      have hql : (0 :: X.take k).length = n := by simp [HXL.out]; omega
      obtain ⟨A1, c1, rfl⟩ := own_slice (gr.pn hpl)
      obtain ⟨A2, c2, rfl⟩ := own_slice (gr.qn hql)
      clear gr
      have HPL := hide hpl; have HQL := hide hql; have HNN := hide hn
      have hn80 : n ≤ 80 := by omega
      have hXn2 := HXN.out
      clear hpl hql hn
      by_cases hlt : k < 73
      · have hks : (k : Int) < (SX.size : Int) := by omega
        have hkn : k < SX.size := by omega
        go_upto_region 15 with (at_builtin; refine wpList_append_own _ rfl (.tmp 41) (.tmp 46) 73 rfl (h + 1) 3 j0 (.int .i64 0) 1 8 Tryd.underlying73 hj hy0 hy1 hy2 rfl (by decide) _ n _ rfl ((GR.out.pn HPL.out).alloc _) ⟨wr.heap.size, 0, none⟩ 1 1 _ rfl rfl (new_i64 _ _) (one_i64 _) (by unfold maxLen; omega) (by omega) (by simp; omega) ?_; intro v12 w7 hown hgrow hnil; clear hnil; have G7 := hide (GR.out.p_addn HPL.out (A0 + 1 + k) hgrow (by simpa using hown)); obtain ⟨A7, c7, rfl⟩ := own_slice hown; clear hown hgrow)
        have hle7 := G7.out.le
        obtain ⟨x, hx⟩ : ∃ x, SX[k] = x := ⟨_, rfl⟩
        have hXk := HXG.out k hkn
        rw [hx] at hXk
        have HXK := hide hXk
        clear hXk
        go_upto_region 13 with (at_builtin; refine wpList_append_own _ rfl (.tmp 48) (.tmp 52) 28 rfl (h + 1) 5 i0 (.int .u8 0) 1 1 Tryd.underlying28 hi hz0 hz1 hz2 rfl (by decide) _ n _ rfl ((G7.out.qn HQL.out).alloc _) ⟨w7.heap.size, 0, none⟩ 1 1 _ rfl rfl (new_u8 _ x) (one_u8 x) (by unfold maxLen; omega) (by omega) (by simp; omega) ?_; intro v13 w8 hown hgrow hnil; clear hnil; have G8 := hide (G7.out.q_addn HQL.out x hgrow hown); obtain ⟨A8, c8, rfl⟩ := own_slice hown; clear hown hgrow)
        go_wp2_with fail
        have hP : placesL A0 k ++ [A0 + 1 + k] = placesL A0 (k + 1) := (placesL_succ A0 k).symm
        have hQ : 0 :: X.take k ++ [x] = 0 :: X.take (k + 1) := by rw [List.take_add_one, HXK.out]; rfl
        go_roundw
        case rel => exact ⟨k + 1, by omega, by go_num, by rw [← hP, ← hQ]; exact G8.out⟩
        case measure => simp [intOf]; omega
      · have hk73 : k = 73 := by omega
        subst hk73
        have hks : ¬ (73 : Int) < (SX.size : Int) := by omega
        have hT73 : X.take 73 = X := List.take_of_length_le (by have := HXL.out; omega)
        have hlew := GR.out.le
        have GR2 := hide (show Gath wc wr h S (placesL A0 73) (0 :: X) (.slice A1 n c1) (.slice A2 n c2) by have := GR.out; rw [hT73] at this; exact this)
        have HQ2 := hide (show (0 :: X).length = n by have := HQL.out; rw [hT73] at this; exact this)
        clear hlt hT73 GR HQL hk
        obtain ⟨m, hm⟩ : ∃ m, n + 1 = m := ⟨_, rfl⟩
        have hm75 : m = 75 := by have := HNN.out; omega
        go_upto_region 17 with (at_builtin; refine wpList_append_own _ rfl (.tmp 54) (.tmp 56) 73 rfl (h + 1) 3 j0 (.int .i64 0) 1 8 Tryd.underlying73 hj hy0 hy1 hy2 rfl (by decide) _ n _ rfl ((GR2.out.pn HPL.out).alloc _) ⟨wr.heap.size, 0, none⟩ 1 1 _ rfl rfl (new_i64 _ _) (one_i64 _) (by unfold maxLen; omega) (by omega) (by simp; omega) ?_; intro v12 w7 hown hgrow hnil; clear hnil; have G7 := hide (GR2.out.p_addn HPL.out A0 hgrow hown); rw [hm] at hown; obtain ⟨A7, c7, rfl⟩ := own_slice hown; clear hown hgrow)
        have hle7 := G7.out.le
        go_upto_region 18 with (at_builtin; refine wpList_append_own _ rfl (.tmp 58) (.tmp 59) 28 rfl (h + 1) 5 i0 (.int .u8 0) 1 1 Tryd.underlying28 hi hz0 hz1 hz2 rfl (by decide) _ n _ rfl ((G7.out.qn HQ2.out).alloc _) ⟨w7.heap.size, 0, none⟩ 1 1 _ rfl rfl (new_u8 _ 165) (one_u8 165) (by unfold maxLen; omega) (by omega) (by simp; omega) ?_; intro v13 w8 hown hgrow hnil; clear hnil; have G8 := hide (G7.out.q_addn HQ2.out 165 hgrow hown); rw [hm] at hown; obtain ⟨A8, c8, rfl⟩ := own_slice hown; clear hown hgrow)
        subst hm75
        obtain ⟨P, hP⟩ : ∃ P, placesL A0 73 ++ [A0] = P := ⟨_, rfl⟩
        obtain ⟨Q, hQ⟩ : ∃ Q, 0 :: X ++ [165] = Q := ⟨_, rfl⟩
        have hPl : P.length = 75 := by rw [← hP, List.length_append, placesL_length]; rfl
        have hQl : Q.length = 75 := by rw [← hQ]; simp [HXL.out]
        have hPb : ∀ (i p : Nat), P[i]? = some p → p < S.length := by
          intro i p hip
          rw [← hP] at hip
          have hmem := List.mem_of_getElem? hip
          have := HSN.out
          simp [placesL] at hmem
          rcases hmem with h1 | ⟨j, h2, h3⟩ | h4 <;> omega
        have g8 := G8.out
        rw [hP, hQ] at g8
        obtain ⟨p0, p1, hp0, hp2⟩ := own_shape (g8.pn hPl) (by decide)
        obtain ⟨q0, q1, hq0, hq2⟩ := own_shape (g8.qn hQl) (by decide)
        injection hp0 with e1 e2 e3
        injection hq0 with e4 e5 e6
        subst e1 e3 e4 e6
        have hst0 : stepsL S P Q 0 = S := by simp [stepsL]
        have HST2 := HST
        rw [hP, hQ] at HST2
        have G9 := hide g8
        have HPB := hide hPb; have HPLN := hide hPl; have HQLN := hide hQl; have HS0 := hide hst0
        clear hP hQ hPl hQl hPb g8 hst0 G7 G8 GR2 HPL HQ2 HST e2 e5 hp2 hq2 hks
        go_wp2_with fail
        go_loopw [16] (fun v16 wr => WRel wc h S P Q (.slice (some ⟨p0, 0, none⟩) 75 c7) (.slice (some ⟨q0, 0, none⟩) 75 c8) most v16 wr) (fun i _ => 75 - (intOf i).toNat)
        case atStart => exact ⟨0, by omega, rfl, by rw [HS0.out]; exact G9.out, by omega⟩
        case round =>
          obtain ⟨k, hk, rfl, gr, hno⟩ := hrel
          obtain ⟨B, hB⟩ : ∃ B, stepsL S P Q k = B := ⟨_, rfl⟩
          rw [hB] at gr
          have hBl : B.length = s.size := by rw [← hB, stepsL_length, HSN.out]
          have hcutk := HST2.out k hk
          rw [hB] at hcutk
          have BWR := hide (BW2.out.trans (gr.bl.mono (Nat.le_of_lt hltx)))
          have GR := hide gr; have HB := hide hB; have HNO := hide hno; have HBL := hide hBl; have HCUT := hide hcutk
          clear hB hno hcutk
          by_cases hlt : k < 75
          · have hki : (k : Int) < 75 := by omega
            by_cases hkm : (k : Int) = most
            · have hCC : C = (B, false) := by rw [← HC.out, if_pos (by omega), HCUT.out, ← hkm]; rfl
              have hcv := gr.conv (c := grownCap wc s.size 0 5) wr rfl
              rw [hBl] at hcv
              subst hCC hkm
              clear gr hBl hlt
              go_wp2
              go_ret2
              exact ⟨rfl, BWR.out⟩
            · obtain ⟨p, hp⟩ : ∃ p, P[k]? = some p := ⟨_, List.getElem?_eq_getElem (by rw [HPLN.out]; exact hlt)⟩
              obtain ⟨x, hx⟩ : ∃ x, Q[k]? = some x := ⟨_, List.getElem?_eq_getElem (by rw [HQLN.out]; exact hlt)⟩
              have hps : p < s.size := by have := HPB.out k p hp; rw [HSN.out] at this; exact this
              have hpi : (p : Int) < (s.size : Int) := by omega
              have d0 := gr.pcell hp
              have e0 := gr.qcell hx
              have f0 : wr.frozen? ⟨h, p, none⟩ = false := gr.b.free p (by omega)
              obtain ⟨y, d1⟩ : ∃ y, wr.cell? ⟨h, p, none⟩ = some y := ⟨_, gr.b.cell p (by omega)⟩
              have hkm2 : ((k : Int) == most) = false := by simpa using hkm
              have HP := hide hp; have HX := hide hx
              clear gr hBl hp hx hlt
              go_wp2_with fail
              go_region
              go_wp2_with fail
              have g2 := (GR.out.set p x).drew 1
              go_roundw
              case rel => exact ⟨k + 1, by omega, by go_num, by rw [stepsL_succ S HP.out HX.out, HB.out]; exact g2, by have := HNO.out; omega⟩
              case measure => simp [intOf]; omega
          · have hk75 : k = 75 := by omega
            subst hk75
            have hCC : C = (B, true) := by have := HNO.out; rw [← HC.out, if_neg (by omega), HCUT.out]
            have hcv := gr.conv (c := grownCap wc s.size 0 5) wr rfl
            rw [hBl] at hcv
            subst hCC
            clear gr hBl hlt
            go_wp2
            go_ret2
            exact ⟨rfl, BWR.out⟩
end Go.Proofs.YtocbaapnajdcfaaDoor
