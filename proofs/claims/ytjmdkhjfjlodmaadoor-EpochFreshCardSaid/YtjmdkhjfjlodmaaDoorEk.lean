/- EpochFresh, walked. -/
import Derived.Test.YtjmdkhjfjlodmaaDoorEi
import Derived.Deep.DeepCutAuto
namespace Go.Proofs.YtjmdkhjfjlodmaaDoor
open Go.RowKit
set_option linter.unusedVariables false
set_option linter.unusedSimpArgs false
attribute [local go_sem] ep_eq10
attribute [local go_sem] mk_eq10

theorem beq_cast (x y : Nat) : ((x : Int) == (y : Int)) = (x == y) := by
  by_cases h : x = y
  · subst h; simp
  · rw [beq_eq_false_iff_ne.2 h, beq_eq_false_iff_ne.2 (by omega)]
def epB (w : World) (g : Nat) (e : Ep) : Prop := w.heap[g]? = some (.cells #[.int .u16 e.c, .int .u8 e.a, .int .u16 e.i] 24 (0, 0))
theorem epB.keep {w w' : World} {g : Nat} {e : Ep} (h : epB w g e) (b : Below w.heap.size w w') : epB w' g e := (b.block _ (Array.getElem?_eq_some_iff.1 h).1).trans h
theorem epB.c0 {w : World} {g : Nat} {e : Ep} (h : epB w g e) : w.cell? ⟨g, 0, none⟩ = some (.int .u16 e.c) := blk_cell h 0
theorem epB.c1 {w : World} {g : Nat} {e : Ep} (h : epB w g e) : w.cell? ⟨g, 1, none⟩ = some (.int .u8 e.a) := blk_cell h 1
theorem epB.c2 {w : World} {g : Nat} {e : Ep} (h : epB w g e) : w.cell? ⟨g, 2, none⟩ = some (.int .u16 e.i) := blk_cell h 2

set_option maxRecDepth 100000 in
set_option maxHeartbeats 4000000 in
theorem fresh_any (H L P Q : Ep) (oH : H.ok) (oL : L.ok) (oP : P.ok) (oQ : Q.ok) (w : World) (hE : Env w) :
    Calls Tryd.prog 3 #[.agg H.v, .agg L.v, .agg #[.int .u16 P.c, .int .u8 P.a, .int .u16 P.i, .int .u16 Q.c, .int .u8 Q.a, .int .u16 Q.i]] w fun e w' => e = .returned (.bool true) ∧ Below w.heap.size w w' := by
  unfold Ep.v
  obtain ⟨w1, hw1⟩ : ∃ w1, ((w.alloc (.cells #[.int .u16 H.c, .int .u8 H.a, .int .u16 H.i] 24)).alloc (.cells #[.int .u16 L.c, .int .u8 L.a, .int .u16 L.i] 24)).alloc (.cells #[.int .u16 P.c, .int .u8 P.a, .int .u16 P.i, .int .u16 Q.c, .int .u8 Q.a, .int .u16 Q.i] 25) = w1 := ⟨_, rfl⟩
  have hs0 : epB w1 w.heap.size H := by rw [← hw1]; exact old_alloc (old_alloc (heap_alloc_new w _) _) _
  have hs1 : epB w1 (w.heap.size + 1) L := by rw [← hw1]; exact old_alloc (heap_alloc2_new w _ _) _
  have hs2 : w1.heap[w.heap.size + 1 + 1]? = some (.cells #[.int .u16 P.c, .int .u8 P.a, .int .u16 P.i, .int .u16 Q.c, .int .u8 Q.a, .int .u16 Q.i] 25 (0, 0)) := by rw [← hw1]; exact new_alloc _ trivial (by simp)
  have b1 : Below w.heap.size w w1 := by rw [← hw1]; exact (((Below.refl _ _).alloc (Nat.le_refl _) _).alloc (by simp) _).alloc (by simp; omega) _
  have HW := hide hw1; have B1 := hide b1; have S0 := hide hs0; have S1 := hide hs1; have S2 := hide hs2; have HE := hide hE
  clear hw1 b1 hs0 hs1 hs2 hE
  go_enter Tryd.func3, Tryd.ntmps3
  go_upto_region 1 with (fail)
  rw [HW.out]
  go_wp2_with fail
  refine (awake03 _ (HE.out.below B1.out)).mono ?_
  rintro e w2 ⟨rfl, b2⟩
  have s0 := S0.out.keep b2
  have s1 := S1.out.keep b2
  have s2 := (b2.block _ (Array.getElem?_eq_some_iff.1 S2.out).1).trans S2.out
  have B2 := hide (B1.out.trans (b2.mono B1.out.size))
  have T0 := hide s0; have T1 := hide s1; have T2 := hide s2
  clear s0 s1 s2 b2 S0 S1 S2 B1
  have c0 := T0.out.c0
  have c1 := T0.out.c1
  have c2 := T0.out.c2
  have g1 : w2.cell? ⟨w.heap.size + 1 + 1, 1, none⟩ = some (.int .u8 P.a) := blk_cell T2.out 1
  have g2 : w2.cell? ⟨w.heap.size + 1 + 1, 2, none⟩ = some (.int .u16 P.i) := blk_cell T2.out 2
  have HM := hide (fun W => mint_any H oH P.a P.i 65535 W)
  have HM2 := hide (fun W => mint_any H oH Q.a Q.i 65535 W)
  by_cases hc : 65535 ≤ (H.c : Int)
  · have hm : mintP H P.a P.i 65535 = (Ep.zero, false) := by unfold mintP; rw [if_pos (by omega)]
    rw [hm] at HM
    unfold Ep.v Ep.zero at HM
    simp only at HM
    go_wp2_with fail
    refine (HM.out _).mono ?_
    rintro e w3 ⟨rfl, b3⟩
    obtain ⟨w4, hw4⟩ : ∃ w4, w3.alloc (.cells #[.int .u16 0, .int .u8 0, .int .u16 0] 24) = w4 := ⟨_, rfl⟩
    have b4 : Below w2.heap.size w2 w4 := by rw [← hw4]; exact b3.alloc b3.size _
    have c0' := (T0.out.keep b4).c0
    have hx : ((H.c : Int) == 65535) = true := by have := oH.c; simp; omega
    have HW4 := hide hw4
    clear hw4 c0 c1 c2 g1 g2 hc HM HM2
    go_upto_region 4 with (fail)
    rw [HW4.out]
    go_wp2
    go_ret
    exact ⟨by simp, B2.out.trans (b4.mono B2.out.size)⟩
  · have hm : mintP H P.a P.i 65535 = (⟨H.c + 1, P.a, P.i⟩, true) := by unfold mintP; rw [if_neg (by omega)]
    have hm2 : mintP H Q.a Q.i 65535 = (⟨H.c + 1, Q.a, Q.i⟩, true) := by unfold mintP; rw [if_neg (by omega)]
    rw [hm] at HM
    rw [hm2] at HM2
    obtain ⟨A, hA⟩ : ∃ A : Ep, (⟨H.c + 1, P.a, P.i⟩ : Ep) = A := ⟨_, rfl⟩
    obtain ⟨B, hB⟩ : ∃ B : Ep, (⟨H.c + 1, Q.a, Q.i⟩ : Ep) = B := ⟨_, rfl⟩
    rw [hA] at HM
    rw [hB] at HM2
    have oA : A.ok := by rw [← hA]; exact ⟨by show H.c + 1 < 65536; omega, oP.a, oP.i⟩
    have oB : B.ok := by rw [← hB]; exact ⟨by show H.c + 1 < 65536; omega, oQ.a, oQ.i⟩
    have nA : H.num < A.num := by
      have := oH.a; have := oH.i
      rw [← hA]; unfold Ep.num; simp only; omega
    have hab : (A.c == B.c && (A.a == B.a && (A.i == B.i))) = (P.a == Q.a && P.i == Q.i) := by rw [← hA, ← hB]; simp
    unfold Ep.v at HM HM2
    have OA := hide oA; have NA := hide nA; have HAB := hide hab
    clear hA hB hm hm2 oA nA hab oB hc
    go_wp2_with fail
    refine (HM.out _).mono ?_
    rintro e w3 ⟨rfl, b3⟩
    obtain ⟨g, hg⟩ : ∃ g, w3.heap.size = g := ⟨_, rfl⟩
    obtain ⟨w4, hw4⟩ : ∃ w4, w3.alloc (.cells #[.int .u16 A.c, .int .u8 A.a, .int .u16 A.i] 24) = w4 := ⟨_, rfl⟩
    have b4 : Below w2.heap.size w2 w4 := by rw [← hw4]; exact b3.alloc b3.size _
    have hg4 : epB w4 g A := by rw [← hw4, ← hg]; exact heap_alloc_new w3 _
    have s0 := T0.out.keep b4
    have s1 := T1.out.keep b4
    have s2 := (b4.block _ (Array.getElem?_eq_some_iff.1 T2.out).1).trans T2.out
    have B4 := hide (B2.out.trans (b4.mono B2.out.size))
    have S0 := hide s0; have S1 := hide s1; have S2 := hide s2; have HG4 := hide hg4; have HG := hide hg; have HW4 := hide hw4
    clear hw4 hg hg4 s0 s1 s2 b3 b4 c0 c1 c2 g1 g2 T0 T1 T2 B2 HM
    go_upto_region 4 with (fail)
    rw [HG.out, HW4.out]
    have c0 := S0.out.c0
    have c1 := S0.out.c1
    have c2 := S0.out.c2
    have g1 : w4.cell? ⟨w.heap.size + 1 + 1, 4, none⟩ = some (.int .u8 Q.a) := blk_cell S2.out 4
    have g2 : w4.cell? ⟨w.heap.size + 1 + 1, 5, none⟩ = some (.int .u16 Q.i) := blk_cell S2.out 5
    go_wp2_with fail
    refine (HM2.out _).mono ?_
    rintro e w5 ⟨rfl, b5⟩
    obtain ⟨h, hh⟩ : ∃ h, w5.heap.size = h := ⟨_, rfl⟩
    obtain ⟨w6, hw6⟩ : ∃ w6, w5.alloc (.cells #[.int .u16 B.c, .int .u8 B.a, .int .u16 B.i] 24) = w6 := ⟨_, rfl⟩
    have b6 : Below w4.heap.size w4 w6 := by rw [← hw6]; exact b5.alloc b5.size _
    have hh6 : epB w6 h B := by rw [← hw6, ← hh]; exact heap_alloc_new w5 _
    have hg6 := HG4.out.keep b6
    have s0 := S0.out.keep b6
    have s1 := S1.out.keep b6
    have s2 := (b6.block _ (Array.getElem?_eq_some_iff.1 S2.out).1).trans S2.out
    have B6 := hide (B4.out.trans (b6.mono B4.out.size))
    have R0 := hide s0; have R1 := hide s1; have R2 := hide s2; have HG6 := hide hg6; have HH6 := hide hh6; have HH := hide hh; have HW6 := hide hw6
    clear hw6 hh hh6 hg6 s0 s1 s2 b5 b6 c0 c1 c2 g1 g2 S0 S1 S2 B4 HM2 HG4
    go_upto_region 7 with (fail)
    rw [HH.out, HW6.out]
    obtain ⟨same, hsame⟩ : ∃ same, (P.a == Q.a && P.i == Q.i) = same := ⟨_, rfl⟩
    have HSM := hide hsame
    rw [hsame] at HAB
    clear hsame
    go_cut [11] (fun v11 wc => v11 = .bool same ∧ wc = w6)
    case first =>
      have g1 : w6.cell? ⟨w.heap.size + 1 + 1, 1, none⟩ = some (.int .u8 P.a) := blk_cell R2.out 1
      have g2 : w6.cell? ⟨w.heap.size + 1 + 1, 2, none⟩ = some (.int .u16 P.i) := blk_cell R2.out 2
      have g4 : w6.cell? ⟨w.heap.size + 1 + 1, 4, none⟩ = some (.int .u8 Q.a) := blk_cell R2.out 4
      have g5 : w6.cell? ⟨w.heap.size + 1 + 1, 5, none⟩ = some (.int .u16 Q.i) := blk_cell R2.out 5
      have hs := HSM.out
      by_cases ha : P.a = Q.a
      · have ha2 : ((P.a : Int) == (Q.a : Int)) = true := by simp [ha]
        have hs2 : ((P.i : Int) == (Q.i : Int)) = same := by rw [beq_cast, ← hs, ha]; simp
        clear ha hs
        go_wp2
        go_meet
        case rel => exact ⟨rfl, rfl⟩
      · have ha2 : ((P.a : Int) == (Q.a : Int)) = false := by rw [beq_cast]; exact beq_eq_false_iff_ne.2 ha
        have hs2 : same = false := by rw [← hs, beq_eq_false_iff_ne.2 ha]; rfl
        subst hs2
        clear ha hs
        go_wp2
        go_meet
        case rel => exact ⟨rfl, rfl⟩
    case rest =>
      obtain ⟨rfl, rfl⟩ := hcut
      have OH := hide oH; have OL := hide oL
      have a0 := R1.out.c0
      have a1 := R1.out.c1
      have a2 := R1.out.c2
      have h0 := R0.out.c0
      have h1 := R0.out.c1
      have h2 := R0.out.c2
      have HC1 := hide (ecmp_any L H wc)
      unfold Ep.v at HC1
      clear oH oL oP oQ HSM
      go_wp2_with fail
      refine HC1.out.mono ?_
      rintro e w7 ⟨rfl, b7⟩
      clear a0 a1 a2 h0 h1 h2 HC1
      have S0 := hide (R0.out.keep b7); have S1 := hide (R1.out.keep b7); have SA := hide (HG6.out.keep b7); have SB := hide (HH6.out.keep b7); have B7 := hide (B6.out.trans (b7.mono B6.out.size))
      clear b7 R0 R1 R2 HG6 HH6 B6
      by_cases hlt : L.cmp H < 0
      · have a0 := SA.out.c0
        have a1 := SA.out.c1
        have a2 := SA.out.c2
        have h0 := S1.out.c0
        have h1 := S1.out.c1
        have h2 := S1.out.c2
        have HC2 := hide (ecmp_any A L w7)
        unfold Ep.v at HC2
        have hAL : 0 < A.cmp L := (Ep.cmp_pos OA.out OL.out).2 (Nat.lt_trans ((Ep.cmp_neg OL.out OH.out).1 hlt) NA.out)
        have hAL2 : ¬ A.cmp L ≤ 0 := by omega
        clear hAL
        go_wp2_with fail
        refine HC2.out.mono ?_
        rintro e w8 ⟨rfl, b8⟩
        clear a0 a1 a2 h0 h1 h2 HC2
        have T0 := hide (S0.out.keep b8); have TA := hide (SA.out.keep b8); have TB := hide (SB.out.keep b8); have BW := hide (B7.out.trans (b8.mono B7.out.size))
        clear b8 S0 S1 SA SB B7
        have a0 := TA.out.c0
        have a1 := TA.out.c1
        have a2 := TA.out.c2
        have h0 := T0.out.c0
        have h1 := T0.out.c1
        have h2 := T0.out.c2
        have HC3 := hide (ecmp_any A H w8)
        unfold Ep.v at HC3
        go_wp2_with fail
        refine HC3.out.mono ?_
        rintro e w9 ⟨rfl, b9⟩
        clear a0 a1 a2 h0 h1 h2 HC3
        have U0 := hide (T0.out.keep b9)
        have UA := hide (TA.out.keep b9)
        have UB := hide (TB.out.keep b9)
        have V9 := hide (BW.out.trans (b9.mono BW.out.size))
        clear b9 T0 TA TB BW
        have a0 := UA.out.c0
        have a1 := UA.out.c1
        have a2 := UA.out.c2
        have h0 := U0.out.c0
        have h1 := U0.out.c1
        have h2 := U0.out.c2
        have p1 : 0 < A.cmp H := (Ep.cmp_pos OA.out OH.out).2 NA.out
        have HC4 := hide (ecmp_any H A w9)
        unfold Ep.v at HC4
        go_wp2_with fail
        refine HC4.out.mono ?_
        rintro e w10 ⟨rfl, b10⟩
        clear a0 a1 a2 h0 h1 h2 HC4 p1
        have XA := UA.out.keep b10
        have XB := UB.out.keep b10
        have V10 := hide (V9.out.trans (b10.mono V9.out.size))
        have a0 := XA.c0
        have a1 := XA.c1
        have a2 := XA.c2
        have d0 := XB.c0
        have d1 := XB.c1
        have d2 := XB.c2
        have p2 : H.cmp A < 0 := (Ep.cmp_neg OH.out OA.out).2 NA.out
        have hab : (((A.c : Int) == (B.c : Int)) && (((A.a : Int) == (B.a : Int)) && ((A.i : Int) == (B.i : Int)))) = same := by rw [← HAB.out]; simp only [beq_cast]
        clear XA XB b10 U0 UA UB V9
        cases same
        · go_wp2
          all_goals first | (exfalso; simp_all; done) | (go_ret; refine ⟨?_, V10.out⟩; simp; done) | (go_ret; refine ⟨?_, V10.out⟩; simp_all; done)
        · go_wp2
          all_goals first | (exfalso; simp_all; done) | (go_ret; refine ⟨?_, V10.out⟩; simp; done) | (go_ret; refine ⟨?_, V10.out⟩; simp_all; done)
      · have T0 := S0; have TA := SA; have TB := SB; have BW := B7
        clear S0 S1 SA SB B7
        have a0 := TA.out.c0
        have a1 := TA.out.c1
        have a2 := TA.out.c2
        have h0 := T0.out.c0
        have h1 := T0.out.c1
        have h2 := T0.out.c2
        have HC3 := hide (ecmp_any A H w7)
        unfold Ep.v at HC3
        go_wp2_with fail
        refine HC3.out.mono ?_
        rintro e w9 ⟨rfl, b9⟩
        clear a0 a1 a2 h0 h1 h2 HC3
        have U0 := hide (T0.out.keep b9)
        have UA := hide (TA.out.keep b9)
        have UB := hide (TB.out.keep b9)
        have V9 := hide (BW.out.trans (b9.mono BW.out.size))
        clear b9 T0 TA TB BW
        have a0 := UA.out.c0
        have a1 := UA.out.c1
        have a2 := UA.out.c2
        have h0 := U0.out.c0
        have h1 := U0.out.c1
        have h2 := U0.out.c2
        have p1 : 0 < A.cmp H := (Ep.cmp_pos OA.out OH.out).2 NA.out
        have HC4 := hide (ecmp_any H A w9)
        unfold Ep.v at HC4
        go_wp2_with fail
        refine HC4.out.mono ?_
        rintro e w10 ⟨rfl, b10⟩
        clear a0 a1 a2 h0 h1 h2 HC4 p1
        have XA := UA.out.keep b10
        have XB := UB.out.keep b10
        have V10 := hide (V9.out.trans (b10.mono V9.out.size))
        have a0 := XA.c0
        have a1 := XA.c1
        have a2 := XA.c2
        have d0 := XB.c0
        have d1 := XB.c1
        have d2 := XB.c2
        have p2 : H.cmp A < 0 := (Ep.cmp_neg OH.out OA.out).2 NA.out
        have hab : (((A.c : Int) == (B.c : Int)) && (((A.a : Int) == (B.a : Int)) && ((A.i : Int) == (B.i : Int)))) = same := by rw [← HAB.out]; simp only [beq_cast]
        clear XA XB b10 U0 UA UB V9
        cases same
        · go_wp2
          all_goals first | (exfalso; simp_all; done) | (go_ret; refine ⟨?_, V10.out⟩; simp; done) | (go_ret; refine ⟨?_, V10.out⟩; simp_all; done)
        · go_wp2
          all_goals first | (exfalso; simp_all; done) | (go_ret; refine ⟨?_, V10.out⟩; simp; done) | (go_ret; refine ⟨?_, V10.out⟩; simp_all; done)
end Go.Proofs.YtjmdkhjfjlodmaaDoor
