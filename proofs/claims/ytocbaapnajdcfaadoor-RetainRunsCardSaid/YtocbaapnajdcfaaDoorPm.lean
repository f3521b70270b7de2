/- The walk of retain.commit. -/
import Derived.Test.YtocbaapnajdcfaaDoorPd
namespace Go.Proofs.YtocbaapnajdcfaaDoor
open Go.RowKit
set_option linter.unusedVariables false
set_option linter.unusedSimpArgs false

theorem St.write_wrote {s : St} {a : Int} {l : List UInt8} (h0 : 0 ≤ s.left) : s.wrote ≤ (s.write a l).2.wrote ∧ (s.write a l).2.wrote ≤ s.wrote + l.length := by
  unfold St.write
  split
  · split
    · exact ⟨Int.le_refl _, by simp only; omega⟩
    · split
      · split
        · simp only; omega
        · simp only; omega
      · simp only; omega
  · exact ⟨Int.le_refl _, by simp only; omega⟩

set_option maxHeartbeats 400000 in
theorem size_any (w : World) : Calls Tryd.prog 15 #[] w fun e w' => e = .returned (.int .i64 148) ∧ w = w' := by
  go_enter Tryd.func15, Tryd.ntmps15
  go_wp2
  go_ret
  exact ⟨rfl, rfl⟩
set_option maxHeartbeats 400000 in
theorem cost_any (w : World) : Calls Tryd.prog 18 #[] w fun e w' => e = .returned (.int .i64 75) ∧ w = w' := by
  go_enter Tryd.func18, Tryd.ntmps18
  go_wp2
  go_ret
  exact ⟨rfl, rfl⟩

theorem stAt_only {w w' : World} {g h cap : Nat} {s : St} (k : StAt w g h cap s) (b : Below w.heap.size w w') : StAt w' g h cap s := k.below b

theorem only_low {g h : Nat} {a b : World} (x : Below a.heap.size a b) : Only g h a b := ⟨x.os, x.tape, x.output, x.size, fun k hk _ _ => x.block k hk⟩
theorem only_below {g h B : Nat} {a b c : World} (x : Only g h a b) (y : Below B b c) (hB : a.heap.size ≤ B) : Only g h a c :=
  ⟨y.os.trans x.os, y.tape.trans x.tape, y.output.trans x.output, Nat.le_trans x.size y.size, fun k hk h1 h2 => (y.block k (by omega)).trans (x.block k hk h1 h2)⟩
theorem stAt_low {w w' : World} {g h cap B : Nat} {s : St} (k : StAt w g h cap s) (b : Below B w w') (hg : g < B) (hh : h < B) : StAt w' g h cap s :=
  k.put rfl k.left0 k.left1 k.wrote0 ((b.block g hg).trans k.blk) (b.block h hh) b.size

def ComRel (w5 : World) (g h cap : Nat) (s : St) (base : Int) (ws : List (Int × List UInt8)) (v : Value) (wr : World) : Prop :=
  ∃ k : Nat, k ≤ 3 ∧ v = .int .i64 k ∧ ∃ s' : St, StAt wr g h cap s' ∧ writesP s base ws = writesP s' base (ws.drop k) ∧ s'.wrote ≤ s.wrote + 80 * k ∧ Only g h w5 wr

set_option maxRecDepth 100000 in
set_option maxHeartbeats 8000000 in
theorem commit_any {w : World} {g h cap : Nat} {s : St} (k : StAt w g h cap s) (r : Rec) (ok : r.ok) (hw : s.wrote + 300 ≤ 9223372036854775807) :
    Calls Tryd.prog 24 #[.pointer (some ⟨g, 0, none⟩), .agg r.v] w fun e w' => e = .returned (.tuple #[.agg (commitP s r).1.1.v, .int .i64 (commitP s r).1.2]) ∧ StAt w' g h cap (commitP s r).2 ∧ Only g h w w' := by
  obtain ⟨i, R, f, hA⟩ : ∃ i R f, newestP s.b = (i, R, f) := ⟨_, _, _, rfl⟩
  have hRok : R.ok := by have := newestP_ok s.b; rw [hA] at this; exact this
  have hi01 : i = 0 ∨ i = 1 := by have := newestP_at s.b; rw [hA] at this; exact this
  obtain ⟨C, hC⟩ : ∃ C, commitP s r = C := ⟨_, rfl⟩
  rw [hC]
  unfold commitP at hC
  rw [hA] at hC
  simp only at hC
  -- the boxes
  obtain ⟨w0, hw0⟩ : ∃ w0, (w.alloc (.cells r.v 25)).alloc (.cells #[.int .u32 0, .int .u16 0, .string ⟨#[]⟩] 25) = w0 := ⟨_, rfl⟩
  have b0 : Below w.heap.size w w0 := by rw [← hw0]; exact ((Below.refl _ _).alloc (Nat.le_refl _) _).alloc (by simp) _
  have hx0 : RecB w0 w.heap.size r := by rw [← hw0]; exact old_alloc (heap_alloc_new w _) _
  have hy0 : w0.heap[w.heap.size + 1]? = some (.cells #[.int .u32 0, .int .u16 0, .string ⟨#[]⟩] 25 (0, 0)) := by rw [← hw0]; exact heap_alloc2_new w _ _
  have k0 := k.below b0
  have HN := hide (newest_any k0)
  rw [hA] at HN
  simp only at HN
  have HK := hide k; have HK0 := hide k0; have HC := hide hC; have HOK := hide ok; have HROK := hide hRok; have HW0 := hide hw0; have B0 := hide b0; have HX0 := hide hx0; have HY0 := hide hy0
  have hg : g < w.heap.size := (Array.getElem?_eq_some_iff.1 k.blk).1
  have hh := k.lt
  clear k k0 hC ok hRok hw0 b0 hx0 hy0 hA
  unfold Rec.v at HN HW0
  unfold Rec.v
  go_enter Tryd.func24, Tryd.ntmps24
  go_wp2_with fail
  rw [HW0.out]
  refine HN.out.mono ?_
  rintro e w1 ⟨rfl, b1⟩
  have hx1 := recB_below HX0.out b1 (Nat.le_refl _)
  have hy1 := (b1.block (w.heap.size + 1) (Array.getElem?_eq_some_iff.1 HY0.out).1).trans HY0.out
  have bw1 : Below w.heap.size w w1 := B0.out.trans (b1.mono B0.out.size)
  obtain ⟨q, hq⟩ : ∃ q, w1.heap.size = q := ⟨_, rfl⟩
  obtain ⟨w2, hw2⟩ : ∃ w2, w1.alloc (.cells #[.int .u32 R.seq, .int .u16 R.inc, .string (ofL R.data)] 25) = w2 := ⟨_, rfl⟩
  have hx2 : RecB w2 w.heap.size r := by rw [← hw2]; exact old_alloc hx1 _
  have hy2 : w2.heap[w.heap.size + 1]? = some (.cells #[.int .u32 0, .int .u16 0, .string ⟨#[]⟩] 25 (0, 0)) := by rw [← hw2]; exact old_alloc hy1 _
  have hz2 : RecB w2 q R := by rw [← hw2, ← hq]; exact heap_alloc_new w1 _
  have bw2 : Below w.heap.size w w2 := by rw [← hw2]; exact bw1.alloc bw1.size _
  have hq1 : w.heap.size + 1 < q := by rw [← hq]; exact (Array.getElem?_eq_some_iff.1 hy1).1
  have HW2 := hide hw2; have HQ := hide hq; have K2 := hide (HK.out.below bw2)
  clear hw2 hq b1 hx1 hy1 bw1 HX0 HY0 B0 HN
  go_upto_region 2 with (fail)
  rw [HQ.out, HW2.out]
  have c0 : w2.cell? ⟨q, 0, none⟩ = some (.int .u32 R.seq) := blk_cell hz2 0
  have d0 : w2.cell? ⟨w.heap.size, 0, none⟩ = some (.int .u32 r.seq) := blk_cell hx2 0
  have d1 : w2.cell? ⟨w.heap.size, 1, none⟩ = some (.int .u16 r.inc) := blk_cell hx2 1
  have d2 : w2.cell? ⟨w.heap.size, 2, none⟩ = some (.string (ofL r.data)) := blk_cell hx2 2
  have m0 : w2.frozen? ⟨w.heap.size, 0, none⟩ = false := blk_frozen hx2 0
  have e0 : w2.cell? ⟨w.heap.size + 1, 0, none⟩ = some (.int .u32 0) := blk_cell hy2 0
  have e1 : w2.cell? ⟨w.heap.size + 1, 1, none⟩ = some (.int .u16 0) := blk_cell hy2 1
  have e2 : w2.cell? ⟨w.heap.size + 1, 2, none⟩ = some (.string ⟨#[]⟩) := blk_cell hy2 2
  have g0 : w2.frozen? ⟨w.heap.size + 1, 0, none⟩ = false := blk_frozen hy2 0
  have g1 : w2.frozen? ⟨w.heap.size + 1, 1, none⟩ = false := blk_frozen hy2 1
  have g2 : w2.frozen? ⟨w.heap.size + 1, 2, none⟩ = false := blk_frozen hy2 2
  have HX2 := hide hx2; have HY2 := hide hy2; have HZ2 := hide hz2; have BW2 := hide bw2
  clear hx2 hy2 hz2 bw2
  by_cases hmax : R.seq = 4294967295
  · have hm1 : ((R.seq : Int) == 4294967295) = true := by simp; omega
    have hC := HC.out
    rw [if_pos hmax] at hC
    subst hC
    clear hmax
    go_wp2_with fail
    obtain ⟨hb9, b9⟩ := rec_put HY2.out (Below.refl w.heap.size w2) (show w.heap.size ≤ w.heap.size + 1 by omega) (.int .u32 0) (.int .u16 0) (.string ⟨#[]⟩)
    generalize ((w2.setCell ⟨w.heap.size + 1, 0, none⟩ (.int .u32 0)).setCell ⟨w.heap.size + 1, 1, none⟩ (.int .u16 0)).setCell ⟨w.heap.size + 1, 2, none⟩ (.string ⟨#[]⟩) = W8 at hb9 b9 ⊢
    have c80 : W8.cell? ⟨w.heap.size + 1, 0, none⟩ = some (.int .u32 0) := blk_cell hb9 0
    have c81 : W8.cell? ⟨w.heap.size + 1, 1, none⟩ = some (.int .u16 0) := blk_cell hb9 1
    have c82 : W8.cell? ⟨w.heap.size + 1, 2, none⟩ = some (.string ⟨#[]⟩) := blk_cell hb9 2
    exact bodyPost_ret (v := .tuple #[.agg #[.int .u32 0, .int .u16 0, .string ⟨#[]⟩], .int .i64 13]) (by simp [results, Tryd.results24, go_sem, c80, c81, c82]) rfl ⟨rfl, stAt_low (K2.out) b9 hg hh, only_below (only_low BW2.out) b9 (Nat.le_refl _)⟩
  · by_cases hlen : s.b.length < 148
    · have hm1 : ((R.seq : Int) == 4294967295) = false := by simp; omega
      have hl2 : ((s.b.length : Int) < 148) = True := eq_true (by omega)
      have hC := HC.out
      rw [if_neg hmax, if_pos hlen] at hC
      subst hC
      clear hmax hlen
      go_wp2_with (go_at_call 27; refine (len_any K2.out).mono ?_; rintro e w' ⟨rfl, rfl⟩; go_wp2_with fail; refine (size_any _).mono ?_; rintro e w' ⟨rfl, rfl⟩)
      obtain ⟨hb9, b9⟩ := rec_put HY2.out (Below.refl w.heap.size w2) (show w.heap.size ≤ w.heap.size + 1 by omega) (.int .u32 0) (.int .u16 0) (.string ⟨#[]⟩)
      generalize ((w2.setCell ⟨w.heap.size + 1, 0, none⟩ (.int .u32 0)).setCell ⟨w.heap.size + 1, 1, none⟩ (.int .u16 0)).setCell ⟨w.heap.size + 1, 2, none⟩ (.string ⟨#[]⟩) = W8 at hb9 b9 ⊢
      have c80 : W8.cell? ⟨w.heap.size + 1, 0, none⟩ = some (.int .u32 0) := blk_cell hb9 0
      have c81 : W8.cell? ⟨w.heap.size + 1, 1, none⟩ = some (.int .u16 0) := blk_cell hb9 1
      have c82 : W8.cell? ⟨w.heap.size + 1, 2, none⟩ = some (.string ⟨#[]⟩) := blk_cell hb9 2
      exact bodyPost_ret (v := .tuple #[.agg #[.int .u32 0, .int .u16 0, .string ⟨#[]⟩], .int .i64 1]) (by simp [results, Tryd.results24, go_sem, c80, c81, c82]) rfl ⟨rfl, stAt_low (K2.out) b9 hg hh, only_below (only_low BW2.out) b9 (Nat.le_refl _)⟩
    · have hm1 : ((R.seq : Int) == 4294967295) = false := by simp; omega
      have hl1 : decide (s.b.length < 148) = false := by simp; omega
      have hl2 : ((s.b.length : Int) < 148) = False := eq_false (by omega)
      obtain ⟨n, hn⟩ : ∃ n, R.seq + 1 = n := ⟨_, rfl⟩
      have wi : IntKind.u32.wrap ((R.seq : Int) + 1) = (n : Int) := by have := HROK.out.seq; rw [IntKind.wrap_u32']; omega
      have hC := HC.out
      rw [if_neg hmax, if_neg hlen, hn] at hC
      obtain ⟨T, hT⟩ : ∃ T : Rec, { r with seq := n } = T := ⟨_, rfl⟩
      have hTok : T.ok := by rw [← hT]; exact ⟨by have := HROK.out.seq; show n < _; omega, HOK.out.inc, HOK.out.data⟩
      rw [hT] at hC
      obtain ⟨a, ha, ha0, ha1⟩ : ∃ a : Int, (if f = true then 1 - i else i) = a ∧ 0 ≤ a ∧ a ≤ 1 := ⟨_, rfl, by split <;> omega, by split <;> omega⟩
      rw [ha] at hC
      have hx3 : RecB (w2.setCell ⟨w.heap.size, 0, none⟩ (.int .u32 n)) w.heap.size T := by
        unfold RecB
        rw [set_heap HX2.out 0 _, ← hT]
        rfl
      have hy3 := (set_other (w := w2) (g := w.heap.size) 0 (.int .u32 (n : Int)) (show w.heap.size + 1 ≠ w.heap.size by omega)).trans HY2.out
      have bw3 : Below w.heap.size w (w2.setCell ⟨w.heap.size, 0, none⟩ (.int .u32 n)) := BW2.out.setCell (p := ⟨w.heap.size, 0, none⟩) (Nat.le_refl _) _
      have hb := hide (fun W => body_any T hTok W)
      have hv : T.v = #[.int .u32 n, .int .u16 r.inc, .string (ofL r.data)] := by rw [← hT]; rfl
      rw [hv] at hb
      have hsl := slotL_length hTok
      obtain ⟨L, hL⟩ : ∃ L, slotL T = L := ⟨_, rfl⟩
      rw [hL] at hb hsl
      have HL := hide hL; have HV := hide hv; have HC2 := hide hC; have HX3 := hide hx3; have HY3 := hide hy3; have BW3 := hide bw3; have HSL := hide hsl; have HA := hide ha
      clear hC HC hmax hlen hl1 hn hT hTok hx3 hy3 bw3 hv hsl hL ha HX2 HY2 HZ2
      cases f
      rotate_left
      have ha2 : 1 - i = a := by have := HA.out; simpa using this
      have HA2 := hide ha2
      clear ha2
      go_upto_region 9 with (go_at_call 27; refine (len_any K2.out).mono ?_; rintro e w' ⟨rfl, rfl⟩; go_wp2_with fail; refine (size_any _).mono ?_; rintro e w' ⟨rfl, rfl⟩)
      rw [HA2.out]
      clear HA2
      rotate_left
      have ha2 : i = a := by have := HA.out; simpa using this
      have HA2 := hide ha2
      clear ha2
      go_upto_region 9 with (go_at_call 27; refine (len_any K2.out).mono ?_; rintro e w' ⟨rfl, rfl⟩; go_wp2_with fail; refine (size_any _).mono ?_; rintro e w' ⟨rfl, rfl⟩)
      rw [HA2.out]
      clear HA2
      all_goals
        have K3 := hide (HK.out.below BW3.out)
        generalize w2.setCell ⟨w.heap.size, 0, none⟩ (.int .u32 (n : Int)) = w3 at *
        have d0 : w3.cell? ⟨w.heap.size, 0, none⟩ = some (.int .u32 n) := (blk_cell HX3.out 0).trans (by rw [← show T.v = #[.int .u32 T.seq, .int .u16 T.inc, .string (ofL T.data)] from rfl, HV.out]; rfl)
        have d1 : w3.cell? ⟨w.heap.size, 1, none⟩ = some (.int .u16 r.inc) := (blk_cell HX3.out 1).trans (by rw [← show T.v = #[.int .u32 T.seq, .int .u16 T.inc, .string (ofL T.data)] from rfl, HV.out]; rfl)
        have d2 : w3.cell? ⟨w.heap.size, 2, none⟩ = some (.string (ofL r.data)) := (blk_cell HX3.out 2).trans (by rw [← show T.v = #[.int .u32 T.seq, .int .u16 T.inc, .string (ofL T.data)] from rfl, HV.out]; rfl)
        go_wp2_with fail
        refine (hb.out _).mono ?_
        rintro e w4 ⟨rfl, b4⟩
        have hx4 := recB_below HX3.out b4 (Nat.le_refl _)
        have hy4 := (b4.block (w.heap.size + 1) (Array.getElem?_eq_some_iff.1 HY3.out).1).trans HY3.out
        have bw4 := BW3.out.trans (b4.mono BW3.out.size)
        have k4 := K3.out.below b4
        go_wp2_with fail
        clear HX3 HY3 BW3 K3 b4 hb d0 d1 d2
        obtain ⟨c, hc⟩ : ∃ c, w4.heap.size = c := ⟨_, rfl⟩
        obtain ⟨w5, hw5⟩ : ∃ w5, w4.alloc (.cells #[.int .i64 0, .string ⟨#[0]⟩, .int .i64 1, .string (ofL L), .int .i64 0, .string ⟨#[165]⟩] 68) = w5 := ⟨_, rfl⟩
        have hx5 : RecB w5 w.heap.size T := by rw [← hw5]; exact old_alloc hx4 _
        have hy5 : w5.heap[w.heap.size + 1]? = some (.cells #[.int .u32 0, .int .u16 0, .string ⟨#[]⟩] 25 (0, 0)) := by rw [← hw5]; exact old_alloc hy4 _
        have hc5 : w5.heap[c]? = some (.cells #[.int .i64 0, .string ⟨#[0]⟩, .int .i64 1, .string (ofL L), .int .i64 0, .string ⟨#[165]⟩] 68 (0, 0)) := by rw [← hw5, ← hc]; exact heap_alloc_new w4 _
        have bw5 : Below w.heap.size w w5 := by rw [← hw5]; exact bw4.alloc bw4.size _
        have k5 : StAt w5 g h cap s := HK.out.below bw5
        have hcy : w.heap.size + 1 < c := by rw [← hc]; exact (Array.getElem?_eq_some_iff.1 hy4).1
        rw [hw5, hc]
        have HX5 := hide hx5; have HY5 := hide hy5; have HC5 := hide hc5; have BW5 := hide bw5; have K5 := hide k5
        clear hw5 hc hx4 hy4 bw4 k4 hx5 hy5 hc5 bw5 k5
        obtain ⟨base, hbase⟩ : ∃ base, a * 74 = base := ⟨_, rfl⟩
        have hb0 : 0 ≤ base := by omega
        have hb1 : base ≤ 74 := by omega
        have HBASE := hide hbase
        clear hbase
        go_loopw [41] (fun v wr => ComRel w5 g h cap s base (threeL T) v wr) (fun i _ => 3 - (intOf i).toNat)
        case atStart => exact ⟨0, by omega, rfl, s, K5.out, rfl, by omega, Only.refl _ _ _⟩
        case round =>
          obtain ⟨j, hj, rfl, s', kr, hws, hwr, hor⟩ := hrel
          have xr : RecB wr w.heap.size T := (hor.block _ (recB_lt HX5.out) (by omega) (by omega)).trans HX5.out
          have yr := (hor.block (w.heap.size + 1) (Array.getElem?_eq_some_iff.1 HY5.out).1 (by omega) (by omega)).trans HY5.out
          have cr := (hor.block c (Array.getElem?_eq_some_iff.1 HC5.out).1 (by omega) (by omega)).trans HC5.out
          have KR := hide kr; have HWS := hide hws; have HOR := hide hor; have XR := hide xr; have YR := hide yr; have CR := hide cr
          have hsz := hor.size
          clear kr hws hor xr yr cr
          have hyl := (Array.getElem?_eq_some_iff.1 YR.out).1
          have hbm := HBASE.out
          have hcl := (Array.getElem?_eq_some_iff.1 CR.out).1
          have hj4 : j = 0 ∨ j = 1 ∨ j = 2 ∨ j = 3 := by omega
          clear hsz
          rcases hj4 with rfl | rfl | rfl | rfl
          · have c0 : wr.cell? ⟨c, 0, none⟩ = some (.int .i64 0) := blk_cell CR.out 0
            have c1 : wr.cell? ⟨c, 1, none⟩ = some (.string ⟨#[0]⟩) := blk_cell CR.out 1
            have balc : Below wr.heap.size wr (wr.alloc (.cells #[.int .i64 0, .string ⟨#[0]⟩] 68)) := (Below.refl _ _).alloc (Nat.le_refl _) _
            obtain ⟨e, s2, hwv⟩ : ∃ e s2, s'.write base [0] = (e, s2) := ⟨_, _, rfl⟩
            have hw2 := St.write_wrote (s := s') (a := base) (l := [0]) KR.out.left0
            have hllen : (([0] : List UInt8)).length ≤ 73 := by decide
            have hnx : writesP s base (threeL T) = if e = 0 then writesP s2 base ((threeL T).drop 1) else (e, s2) := by
              rw [HWS.out, show (threeL T).drop 0 = ((0, [0]) :: [(1, slotL T), (0, [165])]) from rfl, writesP_cons, Int.add_zero, hwv]
              rfl
            rw [hwv] at hw2
            have hwt := write_to (stAt_low KR.out balc (by omega) (by omega)) base ⟨#[0]⟩ (e' := e) (s' := s2) hwv (by decide) (by show s'.wrote + 1 ≤ _; omega)
            have HWT := hide hwt; have HNX := hide hnx; have HW2 := hide hw2; have BALC := hide balc
            clear hwt hnx hw2 balc hwv
            go_wp2_with fail
            refine HWT.out.mono ?_
            rintro e6 w6 ⟨rfl, k6, o6⟩
            have ho6 : Only g h w5 w6 := (only_below HOR.out BALC.out HOR.out.size).trans o6
            have y6 := (o6.block (w.heap.size + 1) (Nat.lt_of_lt_of_le hyl BALC.out.size) (by omega) (by omega)).trans ((BALC.out.block _ hyl).trans YR.out)
            clear c0 c1 HWT
            by_cases he : e = 0
            · subst he
              have hnx2 := HNX.out
              rw [if_pos rfl] at hnx2
              have HNX2 := hide hnx2; have HO6 := hide ho6; have K6 := hide k6
              clear hnx2 ho6 k6 y6 o6
              go_wp2_with fail
              go_roundw
              case rel => exact ⟨1, by omega, by rfl, s2, K6.out, HNX2.out, by have h1 : s2.wrote ≤ s'.wrote + ((([0] : List UInt8)).length : Nat) := HW2.out.2; have h2 : (([0] : List UInt8)).length ≤ 73 := hllen; omega, HO6.out⟩
              case measure => simp [intOf]
            · have hnx2 := HNX.out
              rw [if_neg he] at hnx2
              have hC := HC2.out
              rw [HBASE.out, hnx2] at hC
              simp only [he, if_false] at hC
              subst hC
              have hne : (e != 0) = true := by simpa using he
              have e0 : w6.cell? ⟨w.heap.size + 1, 0, none⟩ = some (.int .u32 0) := blk_cell y6 0
              have e1 : w6.cell? ⟨w.heap.size + 1, 1, none⟩ = some (.int .u16 0) := blk_cell y6 1
              have e2 : w6.cell? ⟨w.heap.size + 1, 2, none⟩ = some (.string ⟨#[]⟩) := blk_cell y6 2
              have g0 : w6.frozen? ⟨w.heap.size + 1, 0, none⟩ = false := blk_frozen y6 0
              have g1 : w6.frozen? ⟨w.heap.size + 1, 1, none⟩ = false := blk_frozen y6 1
              have g2 : w6.frozen? ⟨w.heap.size + 1, 2, none⟩ = false := blk_frozen y6 2
              have Y6 := hide y6; have K6 := hide k6; have HO6 := hide ho6
              clear y6 k6 ho6 o6 hnx2 he
              go_wp2_with fail
              obtain ⟨hb9, b9⟩ := rec_put Y6.out (Below.refl w.heap.size w6) (show w.heap.size ≤ w.heap.size + 1 by omega) (.int .u32 0) (.int .u16 0) (.string ⟨#[]⟩)
              generalize ((w6.setCell ⟨w.heap.size + 1, 0, none⟩ (.int .u32 0)).setCell ⟨w.heap.size + 1, 1, none⟩ (.int .u16 0)).setCell ⟨w.heap.size + 1, 2, none⟩ (.string ⟨#[]⟩) = W8 at hb9 b9 ⊢
              have c80 : W8.cell? ⟨w.heap.size + 1, 0, none⟩ = some (.int .u32 0) := blk_cell hb9 0
              have c81 : W8.cell? ⟨w.heap.size + 1, 1, none⟩ = some (.int .u16 0) := blk_cell hb9 1
              have c82 : W8.cell? ⟨w.heap.size + 1, 2, none⟩ = some (.string ⟨#[]⟩) := blk_cell hb9 2
              exact bodyPost_ret (v := .tuple #[.agg #[.int .u32 0, .int .u16 0, .string ⟨#[]⟩], .int .i64 e]) (by simp [results, Tryd.results24, go_sem, c80, c81, c82]) rfl ⟨rfl, stAt_low (K6.out) b9 hg hh, only_below ((only_low BW5.out).trans HO6.out) b9 (Nat.le_refl _)⟩
          · have c0 : wr.cell? ⟨c, 2, none⟩ = some (.int .i64 1) := blk_cell CR.out 2
            have c1 : wr.cell? ⟨c, 3, none⟩ = some (.string (ofL L)) := blk_cell CR.out 3
            have balc : Below wr.heap.size wr (wr.alloc (.cells #[.int .i64 1, .string (ofL L)] 68)) := (Below.refl _ _).alloc (Nat.le_refl _) _
            obtain ⟨e, s2, hwv⟩ : ∃ e s2, s'.write (base + 1) (slotL T) = (e, s2) := ⟨_, _, rfl⟩
            have hw2 := St.write_wrote (s := s') (a := base + 1) (l := slotL T) KR.out.left0
            have hllen : (slotL T).length ≤ 73 := by rw [HL.out, HSL.out]; exact Nat.le_refl _
            have hnx : writesP s base (threeL T) = if e = 0 then writesP s2 base ((threeL T).drop 2) else (e, s2) := by
              rw [HWS.out, show (threeL T).drop 1 = ((1, slotL T) :: [(0, [165])]) from rfl, writesP_cons, hwv]
              rfl
            rw [hwv] at hw2
            have hwt := write_to (stAt_low KR.out balc (by omega) (by omega)) (base + 1) (ofL L) (e' := e) (s' := s2) (by rw [ofL_data, ← HL.out]; exact hwv) (by rw [ofL_size, HSL.out]; omega) (by rw [ofL_size, HSL.out]; omega)
            have HWT := hide hwt; have HNX := hide hnx; have HW2 := hide hw2; have BALC := hide balc
            clear hwt hnx hw2 balc hwv
            go_wp2_with fail
            refine HWT.out.mono ?_
            rintro e6 w6 ⟨rfl, k6, o6⟩
            have ho6 : Only g h w5 w6 := (only_below HOR.out BALC.out HOR.out.size).trans o6
            have y6 := (o6.block (w.heap.size + 1) (Nat.lt_of_lt_of_le hyl BALC.out.size) (by omega) (by omega)).trans ((BALC.out.block _ hyl).trans YR.out)
            clear c0 c1 HWT
            by_cases he : e = 0
            · subst he
              have hnx2 := HNX.out
              rw [if_pos rfl] at hnx2
              have HNX2 := hide hnx2; have HO6 := hide ho6; have K6 := hide k6
              clear hnx2 ho6 k6 y6 o6
              go_wp2_with fail
              go_roundw
              case rel => exact ⟨2, by omega, by rfl, s2, K6.out, HNX2.out, by have h1 : s2.wrote ≤ s'.wrote + ((slotL T).length : Nat) := HW2.out.2; have h2 : (slotL T).length ≤ 73 := hllen; omega, HO6.out⟩
              case measure => simp [intOf]
            · have hnx2 := HNX.out
              rw [if_neg he] at hnx2
              have hC := HC2.out
              rw [HBASE.out, hnx2] at hC
              simp only [he, if_false] at hC
              subst hC
              have hne : (e != 0) = true := by simpa using he
              have e0 : w6.cell? ⟨w.heap.size + 1, 0, none⟩ = some (.int .u32 0) := blk_cell y6 0
              have e1 : w6.cell? ⟨w.heap.size + 1, 1, none⟩ = some (.int .u16 0) := blk_cell y6 1
              have e2 : w6.cell? ⟨w.heap.size + 1, 2, none⟩ = some (.string ⟨#[]⟩) := blk_cell y6 2
              have g0 : w6.frozen? ⟨w.heap.size + 1, 0, none⟩ = false := blk_frozen y6 0
              have g1 : w6.frozen? ⟨w.heap.size + 1, 1, none⟩ = false := blk_frozen y6 1
              have g2 : w6.frozen? ⟨w.heap.size + 1, 2, none⟩ = false := blk_frozen y6 2
              have Y6 := hide y6; have K6 := hide k6; have HO6 := hide ho6
              clear y6 k6 ho6 o6 hnx2 he
              go_wp2_with fail
              obtain ⟨hb9, b9⟩ := rec_put Y6.out (Below.refl w.heap.size w6) (show w.heap.size ≤ w.heap.size + 1 by omega) (.int .u32 0) (.int .u16 0) (.string ⟨#[]⟩)
              generalize ((w6.setCell ⟨w.heap.size + 1, 0, none⟩ (.int .u32 0)).setCell ⟨w.heap.size + 1, 1, none⟩ (.int .u16 0)).setCell ⟨w.heap.size + 1, 2, none⟩ (.string ⟨#[]⟩) = W8 at hb9 b9 ⊢
              have c80 : W8.cell? ⟨w.heap.size + 1, 0, none⟩ = some (.int .u32 0) := blk_cell hb9 0
              have c81 : W8.cell? ⟨w.heap.size + 1, 1, none⟩ = some (.int .u16 0) := blk_cell hb9 1
              have c82 : W8.cell? ⟨w.heap.size + 1, 2, none⟩ = some (.string ⟨#[]⟩) := blk_cell hb9 2
              exact bodyPost_ret (v := .tuple #[.agg #[.int .u32 0, .int .u16 0, .string ⟨#[]⟩], .int .i64 e]) (by simp [results, Tryd.results24, go_sem, c80, c81, c82]) rfl ⟨rfl, stAt_low (K6.out) b9 hg hh, only_below ((only_low BW5.out).trans HO6.out) b9 (Nat.le_refl _)⟩
          · have c0 : wr.cell? ⟨c, 4, none⟩ = some (.int .i64 0) := blk_cell CR.out 4
            have c1 : wr.cell? ⟨c, 5, none⟩ = some (.string ⟨#[165]⟩) := blk_cell CR.out 5
            have balc : Below wr.heap.size wr (wr.alloc (.cells #[.int .i64 0, .string ⟨#[165]⟩] 68)) := (Below.refl _ _).alloc (Nat.le_refl _) _
            obtain ⟨e, s2, hwv⟩ : ∃ e s2, s'.write base [165] = (e, s2) := ⟨_, _, rfl⟩
            have hw2 := St.write_wrote (s := s') (a := base) (l := [165]) KR.out.left0
            have hllen : (([165] : List UInt8)).length ≤ 73 := by decide
            have hnx : writesP s base (threeL T) = if e = 0 then writesP s2 base ((threeL T).drop 3) else (e, s2) := by
              rw [HWS.out, show (threeL T).drop 2 = ((0, [165]) :: []) from rfl, writesP_cons, Int.add_zero, hwv]
              rfl
            rw [hwv] at hw2
            have hwt := write_to (stAt_low KR.out balc (by omega) (by omega)) base ⟨#[165]⟩ (e' := e) (s' := s2) hwv (by decide) (by show s'.wrote + 1 ≤ _; omega)
            have HWT := hide hwt; have HNX := hide hnx; have HW2 := hide hw2; have BALC := hide balc
            clear hwt hnx hw2 balc hwv
            go_wp2_with fail
            refine HWT.out.mono ?_
            rintro e6 w6 ⟨rfl, k6, o6⟩
            have ho6 : Only g h w5 w6 := (only_below HOR.out BALC.out HOR.out.size).trans o6
            have y6 := (o6.block (w.heap.size + 1) (Nat.lt_of_lt_of_le hyl BALC.out.size) (by omega) (by omega)).trans ((BALC.out.block _ hyl).trans YR.out)
            clear c0 c1 HWT
            by_cases he : e = 0
            · subst he
              have hnx2 := HNX.out
              rw [if_pos rfl] at hnx2
              have HNX2 := hide hnx2; have HO6 := hide ho6; have K6 := hide k6
              clear hnx2 ho6 k6 y6 o6
              go_wp2_with fail
              go_roundw
              case rel => exact ⟨3, by omega, by rfl, s2, K6.out, HNX2.out, by have h1 : s2.wrote ≤ s'.wrote + ((([165] : List UInt8)).length : Nat) := HW2.out.2; have h2 : (([165] : List UInt8)).length ≤ 73 := hllen; omega, HO6.out⟩
              case measure => simp [intOf]
            · have hnx2 := HNX.out
              rw [if_neg he] at hnx2
              have hC := HC2.out
              rw [HBASE.out, hnx2] at hC
              simp only [he, if_false] at hC
              subst hC
              have hne : (e != 0) = true := by simpa using he
              have e0 : w6.cell? ⟨w.heap.size + 1, 0, none⟩ = some (.int .u32 0) := blk_cell y6 0
              have e1 : w6.cell? ⟨w.heap.size + 1, 1, none⟩ = some (.int .u16 0) := blk_cell y6 1
              have e2 : w6.cell? ⟨w.heap.size + 1, 2, none⟩ = some (.string ⟨#[]⟩) := blk_cell y6 2
              have g0 : w6.frozen? ⟨w.heap.size + 1, 0, none⟩ = false := blk_frozen y6 0
              have g1 : w6.frozen? ⟨w.heap.size + 1, 1, none⟩ = false := blk_frozen y6 1
              have g2 : w6.frozen? ⟨w.heap.size + 1, 2, none⟩ = false := blk_frozen y6 2
              have Y6 := hide y6; have K6 := hide k6; have HO6 := hide ho6
              clear y6 k6 ho6 o6 hnx2 he
              go_wp2_with fail
              obtain ⟨hb9, b9⟩ := rec_put Y6.out (Below.refl w.heap.size w6) (show w.heap.size ≤ w.heap.size + 1 by omega) (.int .u32 0) (.int .u16 0) (.string ⟨#[]⟩)
              generalize ((w6.setCell ⟨w.heap.size + 1, 0, none⟩ (.int .u32 0)).setCell ⟨w.heap.size + 1, 1, none⟩ (.int .u16 0)).setCell ⟨w.heap.size + 1, 2, none⟩ (.string ⟨#[]⟩) = W8 at hb9 b9 ⊢
              have c80 : W8.cell? ⟨w.heap.size + 1, 0, none⟩ = some (.int .u32 0) := blk_cell hb9 0
              have c81 : W8.cell? ⟨w.heap.size + 1, 1, none⟩ = some (.int .u16 0) := blk_cell hb9 1
              have c82 : W8.cell? ⟨w.heap.size + 1, 2, none⟩ = some (.string ⟨#[]⟩) := blk_cell hb9 2
              exact bodyPost_ret (v := .tuple #[.agg #[.int .u32 0, .int .u16 0, .string ⟨#[]⟩], .int .i64 e]) (by simp [results, Tryd.results24, go_sem, c80, c81, c82]) rfl ⟨rfl, stAt_low (K6.out) b9 hg hh, only_below ((only_low BW5.out).trans HO6.out) b9 (Nat.le_refl _)⟩
          · have hws := HWS.out
            have hd3 : (threeL T).drop 3 = [] := rfl
            rw [hd3] at hws
            have hC := HC2.out
            rw [HBASE.out, hws] at hC
            simp only [writesP, if_true] at hC
            subst hC
            have x0 : wr.cell? ⟨w.heap.size, 0, none⟩ = some (.int .u32 T.seq) := blk_cell XR.out 0
            have x1 : wr.cell? ⟨w.heap.size, 1, none⟩ = some (.int .u16 T.inc) := blk_cell XR.out 1
            have x2 : wr.cell? ⟨w.heap.size, 2, none⟩ = some (.string (ofL T.data)) := blk_cell XR.out 2
            have e0 : wr.cell? ⟨w.heap.size + 1, 0, none⟩ = some (.int .u32 0) := blk_cell YR.out 0
            have e1 : wr.cell? ⟨w.heap.size + 1, 1, none⟩ = some (.int .u16 0) := blk_cell YR.out 1
            have e2 : wr.cell? ⟨w.heap.size + 1, 2, none⟩ = some (.string ⟨#[]⟩) := blk_cell YR.out 2
            have g0 : wr.frozen? ⟨w.heap.size + 1, 0, none⟩ = false := blk_frozen YR.out 0
            have g1 : wr.frozen? ⟨w.heap.size + 1, 1, none⟩ = false := blk_frozen YR.out 1
            have g2 : wr.frozen? ⟨w.heap.size + 1, 2, none⟩ = false := blk_frozen YR.out 2
            clear hws
            go_wp2_with fail
            obtain ⟨hb9, b9⟩ := rec_put YR.out (Below.refl w.heap.size wr) (show w.heap.size ≤ w.heap.size + 1 by omega) (.int .u32 T.seq) (.int .u16 T.inc) (.string (ofL T.data))
            generalize ((wr.setCell ⟨w.heap.size + 1, 0, none⟩ (.int .u32 T.seq)).setCell ⟨w.heap.size + 1, 1, none⟩ (.int .u16 T.inc)).setCell ⟨w.heap.size + 1, 2, none⟩ (.string (ofL T.data)) = W8 at hb9 b9 ⊢
            have c80 : W8.cell? ⟨w.heap.size + 1, 0, none⟩ = some (.int .u32 T.seq) := blk_cell hb9 0
            have c81 : W8.cell? ⟨w.heap.size + 1, 1, none⟩ = some (.int .u16 T.inc) := blk_cell hb9 1
            have c82 : W8.cell? ⟨w.heap.size + 1, 2, none⟩ = some (.string (ofL T.data)) := blk_cell hb9 2
            exact bodyPost_ret (v := .tuple #[.agg #[.int .u32 T.seq, .int .u16 T.inc, .string (ofL T.data)], .int .i64 0]) (by simp [results, Tryd.results24, go_sem, c80, c81, c82]) rfl ⟨rfl, stAt_low (KR.out) b9 hg hh, only_below ((only_low BW5.out).trans HOR.out) b9 (Nat.le_refl _)⟩
end Go.Proofs.YtocbaapnajdcfaaDoor
