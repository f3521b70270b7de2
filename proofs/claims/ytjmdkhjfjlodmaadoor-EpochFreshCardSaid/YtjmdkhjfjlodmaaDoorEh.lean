/- Layer 3: the walk of epoch.Read. -/
import Derived.Test.YtjmdkhjfjlodmaaDoorEw
import Derived.Test.YtjmdkhjfjlodmaaDoorEt
namespace Go.Proofs.YtjmdkhjfjlodmaaDoor
open Go.RowKit
set_option linter.unusedVariables false
set_option linter.unusedSimpArgs false
attribute [local go_sem] ofL_toList

theorem splitK_len : ∀ (k : Nat) (s : List UInt8), ∀ p ∈ Lib.splitK [46] 0 k s, p.length ≤ s.length := by
  intro k
  induction k with
  | zero => intro s p hp; simp [Lib.splitK] at hp; subst hp; exact Nat.le_refl _
  | succ k ih =>
    intro s p hp
    unfold Lib.splitK at hp
    split at hp
    · simp at hp; subst hp; exact Nat.le_refl _
    · rcases List.mem_cons.1 hp with rfl | hp
      · rw [List.length_take]; omega
      · have := ih _ p hp
        rw [List.length_drop] at this
        omega
theorem pieces_len {S p q r : List UInt8} (h : Lib.splitK [46] 0 2 S = [p, q, r]) : p.length ≤ S.length ∧ q.length ≤ S.length ∧ r.length ≤ S.length := by
  have := splitK_len 2 S
  rw [h] at this
  exact ⟨this p (by simp), this q (by simp), this r (by simp)⟩
theorem pieces_of {S p q r : List UInt8} (h : Lib.splitK [46] 0 2 S = [p, q, r]) {e : Ep} (he : e.text = S) : p = dd e.c ∧ q = dd e.a ∧ r = dd e.i := by
  rw [← he, text_split] at h
  injection h with a1 h
  injection h with a2 h
  injection h with a3 _
  exact ⟨a1.symm, a2.symm, a3.symm⟩

/-- What ParseUint gives: a number, or an error. -/
def PuRes16 (s : ByteArray) (w : World) (e : Ending) (w' : World) : Prop :=
  ∃ (u : Nat) (ev : Value), e = .returned (.tuple #[.int .u64 u, ev]) ∧ Below w.heap.size w w' ∧ ((Lib.parseUintB 16 s.data.toList = .ok u ∧ ev = .nilIface) ∨ ((∀ v, Lib.parseUintB 16 s.data.toList ≠ .ok v) ∧ ∃ (t : TypeId) (p : Value), ev = .iface t p))
theorem pu16_any (s : ByteArray) (hs : s.size ≤ 1000) {w : World} (hE : Env w) : Calls Tryd.prog 25 #[.string s, .int .i64 10, .int .i64 16] w (PuRes16 s w) := by
  cases h : Lib.parseUintB 16 s.data.toList with
  | ok u =>
    refine (Tryd.strconv_ParseUint_10_at16_ok s (by omega) u h w).mono ?_
    rintro e w' ⟨rfl, hw⟩
    refine ⟨u, _, rfl, ?_, .inl ⟨h, rfl⟩⟩
    rcases hw with rfl | rfl
    · exact Below.refl _ _
    · exact Lib.bytesWorld_below _ _ _
  | «syntax» =>
    obtain ⟨tp, p, hv⟩ := hE.syn
    refine (Tryd.strconv_ParseUint_10_at16_syntax_var s (by omega) h tp p w hv).mono ?_
    rintro e w' ⟨N, rfl, _, _, hb⟩
    exact ⟨0, _, rfl, hb, .inr ⟨fun v hv => (by rw [h] at hv; cases hv), _, _, rfl⟩⟩
  | range =>
    obtain ⟨tp, p, hv⟩ := hE.rng
    refine (Tryd.strconv_ParseUint_10_at16_range_var s (by omega) h tp p w hv).mono ?_
    rintro e w' ⟨N, rfl, _, _, hb⟩
    exact ⟨65535, _, rfl, hb, .inr ⟨fun v hv => (by rw [h] at hv; cases hv), _, _, rfl⟩⟩

/-- What ParseUint gives: a number, or an error. -/
def PuRes8 (s : ByteArray) (w : World) (e : Ending) (w' : World) : Prop :=
  ∃ (u : Nat) (ev : Value), e = .returned (.tuple #[.int .u64 u, ev]) ∧ Below w.heap.size w w' ∧ ((Lib.parseUintB 8 s.data.toList = .ok u ∧ ev = .nilIface) ∨ ((∀ v, Lib.parseUintB 8 s.data.toList ≠ .ok v) ∧ ∃ (t : TypeId) (p : Value), ev = .iface t p))
theorem pu8_any (s : ByteArray) (hs : s.size ≤ 1000) {w : World} (hE : Env w) : Calls Tryd.prog 25 #[.string s, .int .i64 10, .int .i64 8] w (PuRes8 s w) := by
  cases h : Lib.parseUintB 8 s.data.toList with
  | ok u =>
    refine (Tryd.strconv_ParseUint_10_at8_ok s (by omega) u h w).mono ?_
    rintro e w' ⟨rfl, hw⟩
    refine ⟨u, _, rfl, ?_, .inl ⟨h, rfl⟩⟩
    rcases hw with rfl | rfl
    · exact Below.refl _ _
    · exact Lib.bytesWorld_below _ _ _
  | «syntax» =>
    obtain ⟨tp, p, hv⟩ := hE.syn
    refine (Tryd.strconv_ParseUint_10_at8_syntax_var s (by omega) h tp p w hv).mono ?_
    rintro e w' ⟨N, rfl, _, _, hb⟩
    exact ⟨0, _, rfl, hb, .inr ⟨fun v hv => (by rw [h] at hv; cases hv), _, _, rfl⟩⟩
  | range =>
    obtain ⟨tp, p, hv⟩ := hE.rng
    refine (Tryd.strconv_ParseUint_10_at8_range_var s (by omega) h tp p w hv).mono ?_
    rintro e w' ⟨N, rfl, _, _, hb⟩
    exact ⟨255, _, rfl, hb, .inr ⟨fun v hv => (by rw [h] at hv; cases hv), _, _, rfl⟩⟩

set_option maxRecDepth 100000 in
set_option maxHeartbeats 4000000 in
theorem eread_any (S : List UInt8) (hs : S.length ≤ 1000) (w : World) (hE : Env w) :
    Calls Tryd.prog 10 #[.string (ofL S)] w fun e w' => e = .returned (.tuple #[.agg (readE S).1.v, .bool (readE S).2]) ∧ Below w.heap.size w w' := by
  have hz := ofL_size S
  have hct : (∃ e : Ep, e.text = S) → Lib.countB (ofL S) ⟨#[46]⟩ = 2 := by
    rintro ⟨e, rfl⟩
    show Lib.count _ _ = 2
    rw [ofL_data]
    exact text_count e
  have hthree := split_three (S := S)
  obtain ⟨s, hS⟩ : ∃ s, ofL S = s := ⟨_, rfl⟩
  rw [hS] at hz hct hthree ⊢
  obtain ⟨w1, hw1⟩ : ∃ w1, w.alloc (.cells #[.int .u16 0, .int .u8 0, .int .u16 0] 24) = w1 := ⟨_, rfl⟩
  have hx1 : w1.heap[w.heap.size]? = some (.cells #[.int .u16 0, .int .u8 0, .int .u16 0] 24 (0, 0)) := by rw [← hw1]; exact heap_alloc_new w _
  have b1 : Below w.heap.size w w1 := by rw [← hw1]; exact (Below.refl _ _).alloc (Nat.le_refl _) _
  have e1 := hE.below b1
  obtain ⟨m, hm⟩ := e1.hm
  have HSP := hide (Tryd.strings_Split s ⟨#[46]⟩ m w1 (by omega) hm (by decide))
  obtain ⟨cnt, hcnt⟩ : ∃ cnt, Lib.countB s ⟨#[46]⟩ = cnt := ⟨_, rfl⟩
  rw [hcnt] at HSP hct hthree
  have HW1 := hide hw1; have HX1 := hide hx1; have B1 := hide b1; have E1 := hide e1; have HZ := hide hz; have HCT := hide hct; have HTH := hide hthree; have HSS := hide hS
  clear hw1 hx1 b1 e1 hm hz hct hthree hcnt hE hS
  go_enter Tryd.func10, Tryd.ntmps10
  go_upto_region 1 with (fail)
  rw [HW1.out]
  go_wp2_with fail
  refine HSP.out.mono ?_
  rintro e w2 ⟨rfl, hw2⟩
  clear HSP
  by_cases hc3 : cnt + 1 = 3
  · obtain ⟨p, q, r, hpq, hk⟩ := HTH.out hc3
    have hcnt2 : cnt = 2 := by omega
    subst hcnt2
    rw [hpq] at hw2
    obtain ⟨g, hg⟩ : ∃ g, w1.heap.size = g := ⟨_, rfl⟩
    have hx2 : w2.heap[g]? = some (.cells #[.string p, .string q, .string r] 9 (0, 0)) := by rw [hw2, ← hg]; exact heap_alloc_new w1 _
    have b2 : Below w1.heap.size w1 w2 := by rw [hw2]; exact (Below.refl _ _).alloc (Nat.le_refl _) _
    have hr2 := (b2.block _ (Array.getElem?_eq_some_iff.1 HX1.out).1).trans HX1.out
    have bw2 := B1.out.trans (b2.mono B1.out.size)
    have e2 := E1.out.below b2
    have hgl : g < w2.heap.size := (Array.getElem?_eq_some_iff.1 hx2).1
    have hwg : w.heap.size < w2.heap.size := (Array.getElem?_eq_some_iff.1 hr2).1
    have hp1 : p.size ≤ 1000 ∧ q.size ≤ 1000 ∧ r.size ≤ 1000 := by
      have hj := pieces_len hk
      rw [size_data, size_data, size_data] at hj
      omega
    have HPS := hide hp1
    rw [hg]
    have c0 : w2.cell? ⟨g, 0, none⟩ = some (.string p) := blk_cell hx2 0
    have c1 : w2.cell? ⟨g, 1, none⟩ = some (.string q) := blk_cell hx2 1
    have c2 : w2.cell? ⟨g, 2, none⟩ = some (.string r) := blk_cell hx2 2
    have HX2 := hide hx2; have HR2 := hide hr2; have BW2 := hide bw2; have E2 := hide e2; have HK := hide hk
    clear hw2 hx2 hr2 bw2 e2 b2 hpq hk hp1 HX1 B1 E1 HTH
    go_wp2_with fail
    refine (pu16_any p HPS.out.1 E2.out).mono ?_
    rintro e w3 ⟨u, ev, rfl, b3, hu⟩
    have hx3 := (b3.block _ hgl).trans HX2.out
    have hr3 := (b3.block _ hwg).trans HR2.out
    have e3 := E2.out.below b3
    have bw3 := BW2.out.trans (b3.mono BW2.out.size)
    have hgl3 : g < w3.heap.size := (Array.getElem?_eq_some_iff.1 hx3).1
    have hwg3 : w.heap.size < w3.heap.size := (Array.getElem?_eq_some_iff.1 hr3).1
    clear c0 c1 c2
    have c1 : w3.cell? ⟨g, 1, none⟩ = some (.string q) := blk_cell hx3 1
    have HX3 := hide hx3; have HR3 := hide hr3; have BW3 := hide bw3; have E3 := hide e3; have HU := hide hu
    clear hx3 hr3 bw3 e3 b3 hu hgl hwg HX2 HR2 BW2 E2
    go_wp2_with fail
    refine (pu8_any q HPS.out.2.1 E3.out).mono ?_
    rintro e w4 ⟨u2, ev2, rfl, b4, hu2⟩
    have hx4 := (b4.block _ hgl3).trans HX3.out
    have hr4 := (b4.block _ hwg3).trans HR3.out
    have e4 := E3.out.below b4
    have bw4 := BW3.out.trans (b4.mono BW3.out.size)
    have hwg4 : w.heap.size < w4.heap.size := (Array.getElem?_eq_some_iff.1 hr4).1
    clear c1
    have c2 : w4.cell? ⟨g, 2, none⟩ = some (.string r) := blk_cell hx4 2
    have HR4 := hide hr4; have BW4 := hide bw4; have E4 := hide e4; have HU2 := hide hu2
    clear hx4 hr4 bw4 e4 b4 hu2 hgl3 hwg3 HX3 HR3 BW3 E3
    go_wp2_with fail
    refine (pu16_any r HPS.out.2.2 E4.out).mono ?_
    rintro e w5 ⟨u3, ev3, rfl, b5, hu3⟩
    have hr5 := (b5.block _ hwg4).trans HR4.out
    have e5 := E4.out.below b5
    have bw5 := BW4.out.trans (b5.mono BW4.out.size)
    have hwg5 : w.heap.size < w5.heap.size := (Array.getElem?_eq_some_iff.1 hr5).1
    clear c2
    have HR5 := hide hr5; have BW5 := hide bw5; have E5 := hide e5
    clear hr5 bw5 e5 b5 hwg4 HR4 BW4 E4
    rcases HU.out with ⟨o1, rfl⟩ | ⟨n1, t1, p1, rfl⟩
    · rcases HU2.out with ⟨o2, rfl⟩ | ⟨n2, t2, p2, rfl⟩
      · rcases hu3 with ⟨o3, rfl⟩ | ⟨n3, t3, p3, rfl⟩
        · have hok : Ep.ok ⟨u, u2, u3⟩ := ⟨by have := Lib.parseUintB_le o1; show u < 65536; omega, by have := Lib.parseUintB_le o2; show u2 < 256; omega, by have := Lib.parseUintB_le o3; show u3 < 65536; omega⟩
          have l1 := hok.c; have l2 := hok.a; have l3 := hok.i
          simp only at l1 l2 l3
          have m1 : IntKind.u16.wrap (u : Int) = (u : Int) := by rw [IntKind.wrap_u16]; omega
          have m2 : IntKind.u8.wrap (u2 : Int) = (u2 : Int) := by rw [IntKind.wrap_u8']; omega
          have m3 : IntKind.u16.wrap (u3 : Int) = (u3 : Int) := by rw [IntKind.wrap_u16]; omega
          obtain ⟨k, hk⟩ : ∃ k, w5.heap.size = k := ⟨_, rfl⟩
          obtain ⟨w6, hw6⟩ : ∃ w6, w5.alloc (.cells #[.int .u16 u, .int .u8 u2, .int .u16 u3] 24) = w6 := ⟨_, rfl⟩
          have hk6 : w6.heap[k]? = some (.cells #[.int .u16 u, .int .u8 u2, .int .u16 u3] 24 (0, 0)) := by rw [← hw6, ← hk]; exact heap_alloc_new w5 _
          have b6 : Below w5.heap.size w5 w6 := by rw [← hw6]; exact (Below.refl _ _).alloc (Nat.le_refl _) _
          have hr6 := (b6.block _ hwg5).trans HR5.out
          have e6 := E5.out.below b6
          have bw6 := BW5.out.trans (b6.mono BW5.out.size)
          have hwk : w.heap.size < k := by rw [← hk]; exact hwg5
          have HK6 := hide hk; have HW6 := hide hw6; have HKB := hide hk6; have HR6 := hide hr6; have E6 := hide e6; have BW6 := hide bw6; have OK := hide hok; have O1 := hide o1; have O2 := hide o2; have O3 := hide o3
          clear hk hw6 hk6 b6 hr6 e6 bw6 hok o1 o2 o3 HR5 BW5 E5 HU HU2 l1 l2 l3 hwg5
          go_upto_region 10 with (fail)
          rw [HK6.out, HW6.out]
          clear m1 m2 m3
          have c0 : w6.cell? ⟨k, 0, none⟩ = some (.int .u16 u) := blk_cell HKB.out 0
          have c1 : w6.cell? ⟨k, 1, none⟩ = some (.int .u8 u2) := blk_cell HKB.out 1
          have c2 : w6.cell? ⟨k, 2, none⟩ = some (.int .u16 u3) := blk_cell HKB.out 2
          have HTX := hide (etext_any ⟨u, u2, u3⟩ OK.out w6 E6.out)
          unfold Ep.v at HTX
          simp only at HTX
          go_wp2_with fail
          refine HTX.out.mono ?_
          rintro e w7 ⟨rfl, b7⟩
          have hr7 := (b7.block _ (Array.getElem?_eq_some_iff.1 HR6.out).1).trans HR6.out
          have hk7 := (b7.block _ (Array.getElem?_eq_some_iff.1 HKB.out).1).trans HKB.out
          have bw7 := BW6.out.trans (b7.mono BW6.out.size)
          clear c0 c1 c2 b7
          have HR7 := hide hr7; have HK7 := hide hk7; have BW7 := hide bw7
          clear hr7 hk7 bw7
          by_cases hte : Ep.text ⟨u, u2, u3⟩ = S
          · have hsame : ofL (Ep.text ⟨u, u2, u3⟩) = s := by rw [hte, HSS.out]
            rw [hsame]
            have c0 : w7.cell? ⟨k, 0, none⟩ = some (.int .u16 u) := blk_cell HK7.out 0
            have c1 : w7.cell? ⟨k, 1, none⟩ = some (.int .u8 u2) := blk_cell HK7.out 1
            have c2 : w7.cell? ⟨k, 2, none⟩ = some (.int .u16 u3) := blk_cell HK7.out 2
            have e0 : w7.cell? ⟨w.heap.size, 0, none⟩ = some (.int .u16 0) := blk_cell HR7.out 0
            have e1 : w7.cell? ⟨w.heap.size, 1, none⟩ = some (.int .u8 0) := blk_cell HR7.out 1
            have e2 : w7.cell? ⟨w.heap.size, 2, none⟩ = some (.int .u16 0) := blk_cell HR7.out 2
            have f0 : w7.frozen? ⟨w.heap.size, 0, none⟩ = false := blk_frozen HR7.out 0
            have f1 : w7.frozen? ⟨w.heap.size, 1, none⟩ = false := blk_frozen HR7.out 1
            have f2 : w7.frozen? ⟨w.heap.size, 2, none⟩ = false := blk_frozen HR7.out 2
            have HTE := hide hte
            clear hte hsame
            go_wp2
            obtain ⟨hb9, b9⟩ := ep_put HR7.out BW7.out (Nat.le_refl _) (.int .u16 u) (.int .u8 u2) (.int .u16 u3)
            generalize ((w7.setCell ⟨w.heap.size, 0, none⟩ (.int .u16 u)).setCell ⟨w.heap.size, 1, none⟩ (.int .u8 u2)).setCell ⟨w.heap.size, 2, none⟩ (.int .u16 u3) = W8 at hb9 b9 ⊢
            have c80 : W8.cell? ⟨w.heap.size, 0, none⟩ = some (.int .u16 u) := blk_cell hb9 0
            have c81 : W8.cell? ⟨w.heap.size, 1, none⟩ = some (.int .u8 u2) := blk_cell hb9 1
            have c82 : W8.cell? ⟨w.heap.size, 2, none⟩ = some (.int .u16 u3) := blk_cell hb9 2
            refine bodyPost_ret (v := .tuple #[.agg #[.int .u16 u, .int .u8 u2, .int .u16 u3], .bool true]) (by simp [results, Tryd.results10, go_sem, c80, c81, c82]) rfl ⟨?_, b9⟩
            rw [readE_yes OK.out HTE.out]
            rfl
          · have hother : ((ofL (Ep.text ⟨u, u2, u3⟩)).toList == s.toList) = false := by
              rw [← HSS.out, ofL_toList, ofL_toList]
              simpa using hte
            have HTE := hide hte
            obtain ⟨TX, hTX⟩ : ∃ TX, ofL (Ep.text ⟨u, u2, u3⟩) = TX := ⟨_, rfl⟩
            rw [hTX] at hother ⊢
            clear hte hTX
            have e0 : w7.cell? ⟨w.heap.size, 0, none⟩ = some (.int .u16 0) := blk_cell HR7.out 0
            have e1 : w7.cell? ⟨w.heap.size, 1, none⟩ = some (.int .u8 0) := blk_cell HR7.out 1
            have e2 : w7.cell? ⟨w.heap.size, 2, none⟩ = some (.int .u16 0) := blk_cell HR7.out 2
            have f0 : w7.frozen? ⟨w.heap.size, 0, none⟩ = false := blk_frozen HR7.out 0
            have f1 : w7.frozen? ⟨w.heap.size, 1, none⟩ = false := blk_frozen HR7.out 1
            have f2 : w7.frozen? ⟨w.heap.size, 2, none⟩ = false := blk_frozen HR7.out 2
            go_wp2
            obtain ⟨hb9, b9⟩ := ep_put HR7.out BW7.out (Nat.le_refl _) (.int .u16 0) (.int .u8 0) (.int .u16 0)
            generalize ((w7.setCell ⟨w.heap.size, 0, none⟩ (.int .u16 0)).setCell ⟨w.heap.size, 1, none⟩ (.int .u8 0)).setCell ⟨w.heap.size, 2, none⟩ (.int .u16 0) = W8 at hb9 b9 ⊢
            have c80 : W8.cell? ⟨w.heap.size, 0, none⟩ = some (.int .u16 0) := blk_cell hb9 0
            have c81 : W8.cell? ⟨w.heap.size, 1, none⟩ = some (.int .u8 0) := blk_cell hb9 1
            have c82 : W8.cell? ⟨w.heap.size, 2, none⟩ = some (.int .u16 0) := blk_cell hb9 2
            refine bodyPost_ret (v := .tuple #[.agg #[.int .u16 0, .int .u8 0, .int .u16 0], .bool false]) (by simp [results, Tryd.results10, go_sem, c80, c81, c82]) rfl ⟨?_, b9⟩
            rw [readE_no (fun e ok he => by obtain ⟨a1, a2, a3⟩ := pieces_of HK.out he; have o1 := O1.out; have o2 := O2.out; have o3 := O3.out; rw [a1, pu16_dd ok.c] at o1; rw [a2, pu8_dd ok.a] at o2; rw [a3, pu16_dd ok.i] at o3; injection o1 with o1; injection o2 with o2; injection o3 with o3; apply HTE.out; rw [← o1, ← o2, ← o3]; exact he)]
            rfl
        · clear HU HU2
          have e0 : w5.cell? ⟨w.heap.size, 0, none⟩ = some (.int .u16 0) := blk_cell HR5.out 0
          have e1 : w5.cell? ⟨w.heap.size, 1, none⟩ = some (.int .u8 0) := blk_cell HR5.out 1
          have e2 : w5.cell? ⟨w.heap.size, 2, none⟩ = some (.int .u16 0) := blk_cell HR5.out 2
          have f0 : w5.frozen? ⟨w.heap.size, 0, none⟩ = false := blk_frozen HR5.out 0
          have f1 : w5.frozen? ⟨w.heap.size, 1, none⟩ = false := blk_frozen HR5.out 1
          have f2 : w5.frozen? ⟨w.heap.size, 2, none⟩ = false := blk_frozen HR5.out 2
          go_wp2
          obtain ⟨hb9, b9⟩ := ep_put HR5.out BW5.out (Nat.le_refl _) (.int .u16 0) (.int .u8 0) (.int .u16 0)
          generalize ((w5.setCell ⟨w.heap.size, 0, none⟩ (.int .u16 0)).setCell ⟨w.heap.size, 1, none⟩ (.int .u8 0)).setCell ⟨w.heap.size, 2, none⟩ (.int .u16 0) = W8 at hb9 b9 ⊢
          have c80 : W8.cell? ⟨w.heap.size, 0, none⟩ = some (.int .u16 0) := blk_cell hb9 0
          have c81 : W8.cell? ⟨w.heap.size, 1, none⟩ = some (.int .u8 0) := blk_cell hb9 1
          have c82 : W8.cell? ⟨w.heap.size, 2, none⟩ = some (.int .u16 0) := blk_cell hb9 2
          refine bodyPost_ret (v := .tuple #[.agg #[.int .u16 0, .int .u8 0, .int .u16 0], .bool false]) (by simp [results, Tryd.results10, go_sem, c80, c81, c82]) rfl ⟨?_, b9⟩
          rw [readE_no (fun e ok he => by obtain ⟨a1, a2, a3⟩ := pieces_of HK.out he; apply n3 e.i; rw [a3]; exact pu16_dd ok.i)]
          rfl
      · clear HU
        have e0 : w5.cell? ⟨w.heap.size, 0, none⟩ = some (.int .u16 0) := blk_cell HR5.out 0
        have e1 : w5.cell? ⟨w.heap.size, 1, none⟩ = some (.int .u8 0) := blk_cell HR5.out 1
        have e2 : w5.cell? ⟨w.heap.size, 2, none⟩ = some (.int .u16 0) := blk_cell HR5.out 2
        have f0 : w5.frozen? ⟨w.heap.size, 0, none⟩ = false := blk_frozen HR5.out 0
        have f1 : w5.frozen? ⟨w.heap.size, 1, none⟩ = false := blk_frozen HR5.out 1
        have f2 : w5.frozen? ⟨w.heap.size, 2, none⟩ = false := blk_frozen HR5.out 2
        go_wp2
        obtain ⟨hb9, b9⟩ := ep_put HR5.out BW5.out (Nat.le_refl _) (.int .u16 0) (.int .u8 0) (.int .u16 0)
        generalize ((w5.setCell ⟨w.heap.size, 0, none⟩ (.int .u16 0)).setCell ⟨w.heap.size, 1, none⟩ (.int .u8 0)).setCell ⟨w.heap.size, 2, none⟩ (.int .u16 0) = W8 at hb9 b9 ⊢
        have c80 : W8.cell? ⟨w.heap.size, 0, none⟩ = some (.int .u16 0) := blk_cell hb9 0
        have c81 : W8.cell? ⟨w.heap.size, 1, none⟩ = some (.int .u8 0) := blk_cell hb9 1
        have c82 : W8.cell? ⟨w.heap.size, 2, none⟩ = some (.int .u16 0) := blk_cell hb9 2
        refine bodyPost_ret (v := .tuple #[.agg #[.int .u16 0, .int .u8 0, .int .u16 0], .bool false]) (by simp [results, Tryd.results10, go_sem, c80, c81, c82]) rfl ⟨?_, b9⟩
        rw [readE_no (fun e ok he => by obtain ⟨a1, a2, a3⟩ := pieces_of HK.out he; apply n2 e.a; rw [a2]; exact pu8_dd ok.a)]
        rfl
    · clear HU2
      have e0 : w5.cell? ⟨w.heap.size, 0, none⟩ = some (.int .u16 0) := blk_cell HR5.out 0
      have e1 : w5.cell? ⟨w.heap.size, 1, none⟩ = some (.int .u8 0) := blk_cell HR5.out 1
      have e2 : w5.cell? ⟨w.heap.size, 2, none⟩ = some (.int .u16 0) := blk_cell HR5.out 2
      have f0 : w5.frozen? ⟨w.heap.size, 0, none⟩ = false := blk_frozen HR5.out 0
      have f1 : w5.frozen? ⟨w.heap.size, 1, none⟩ = false := blk_frozen HR5.out 1
      have f2 : w5.frozen? ⟨w.heap.size, 2, none⟩ = false := blk_frozen HR5.out 2
      go_wp2
      obtain ⟨hb9, b9⟩ := ep_put HR5.out BW5.out (Nat.le_refl _) (.int .u16 0) (.int .u8 0) (.int .u16 0)
      generalize ((w5.setCell ⟨w.heap.size, 0, none⟩ (.int .u16 0)).setCell ⟨w.heap.size, 1, none⟩ (.int .u8 0)).setCell ⟨w.heap.size, 2, none⟩ (.int .u16 0) = W8 at hb9 b9 ⊢
      have c80 : W8.cell? ⟨w.heap.size, 0, none⟩ = some (.int .u16 0) := blk_cell hb9 0
      have c81 : W8.cell? ⟨w.heap.size, 1, none⟩ = some (.int .u8 0) := blk_cell hb9 1
      have c82 : W8.cell? ⟨w.heap.size, 2, none⟩ = some (.int .u16 0) := blk_cell hb9 2
      refine bodyPost_ret (v := .tuple #[.agg #[.int .u16 0, .int .u8 0, .int .u16 0], .bool false]) (by simp [results, Tryd.results10, go_sem, c80, c81, c82]) rfl ⟨?_, b9⟩
      rw [readE_no (fun e ok he => by obtain ⟨a1, a2, a3⟩ := pieces_of HK.out he; apply n1 e.c; rw [a1]; exact pu16_dd ok.c)]
      rfl
  · have hne : (((cnt + 1 : Nat) : Int) != 3) = true := by simp; omega
    have b2 : Below w1.heap.size w1 w2 := by rw [hw2]; exact (Below.refl _ _).alloc (Nat.le_refl _) _
    have hr2 := (b2.block _ (Array.getElem?_eq_some_iff.1 HX1.out).1).trans HX1.out
    have bw2 := B1.out.trans (b2.mono B1.out.size)
    have HR2 := hide hr2; have BW2 := hide bw2; have HC3 := hide hc3
    clear hw2 b2 hr2 bw2 hc3
    have e0 : w2.cell? ⟨w.heap.size, 0, none⟩ = some (.int .u16 0) := blk_cell HR2.out 0
    have e1 : w2.cell? ⟨w.heap.size, 1, none⟩ = some (.int .u8 0) := blk_cell HR2.out 1
    have e2 : w2.cell? ⟨w.heap.size, 2, none⟩ = some (.int .u16 0) := blk_cell HR2.out 2
    have f0 : w2.frozen? ⟨w.heap.size, 0, none⟩ = false := blk_frozen HR2.out 0
    have f1 : w2.frozen? ⟨w.heap.size, 1, none⟩ = false := blk_frozen HR2.out 1
    have f2 : w2.frozen? ⟨w.heap.size, 2, none⟩ = false := blk_frozen HR2.out 2
    go_wp2
    obtain ⟨hb9, b9⟩ := ep_put HR2.out BW2.out (Nat.le_refl _) (.int .u16 0) (.int .u8 0) (.int .u16 0)
    generalize ((w2.setCell ⟨w.heap.size, 0, none⟩ (.int .u16 0)).setCell ⟨w.heap.size, 1, none⟩ (.int .u8 0)).setCell ⟨w.heap.size, 2, none⟩ (.int .u16 0) = W8 at hb9 b9 ⊢
    have c80 : W8.cell? ⟨w.heap.size, 0, none⟩ = some (.int .u16 0) := blk_cell hb9 0
    have c81 : W8.cell? ⟨w.heap.size, 1, none⟩ = some (.int .u8 0) := blk_cell hb9 1
    have c82 : W8.cell? ⟨w.heap.size, 2, none⟩ = some (.int .u16 0) := blk_cell hb9 2
    refine bodyPost_ret (v := .tuple #[.agg #[.int .u16 0, .int .u8 0, .int .u16 0], .bool false]) (by simp [results, Tryd.results10, go_sem, c80, c81, c82]) rfl ⟨?_, b9⟩
    rw [readE_no (fun e ok he => by have := HCT.out ⟨e, he⟩; have := HC3.out; omega)]
    rfl
end Go.Proofs.YtjmdkhjfjlodmaaDoor
