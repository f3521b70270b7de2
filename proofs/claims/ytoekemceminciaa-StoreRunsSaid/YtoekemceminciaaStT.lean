/- The walk of StoreTears. -/
import Derived.Test.YtoekemceminciaaStA
namespace Go.Proofs.Ytoekemceminciaa
open Go.RowKit
set_option linter.unusedVariables false
set_option linter.unusedSimpArgs false
attribute [local go_sem] ofL_toList
attribute [local go_sem high] min_i

theorem ofL_eq {s : ByteArray} {l : List UInt8} (h : s.data.toList = l) : s = ofL l := by rw [← h, ofL_of]
theorem data_append (a b : ByteArray) : (a ++ b).data.toList = a.data.toList ++ b.data.toList := by simp
theorem data_extract (a : ByteArray) (i j : Nat) : (a.extract i j).data.toList = (a.data.toList.drop i).take (j - i) := by simp

theorem quiet_left {P : Program} {f : FuncId} {args : Array Value} {w : World} {n : Nat} {v : Value}
    (h : Calls P f args (w.drewN n) fun e w' => e = .returned v ∧ w.drewN n = w') : Calls P f args (w.drewN n) fun e w'' => e = .returned v ∧ ∃ m, w'' = w.drewN m :=
  h.mono fun _ _ ⟨he, hm⟩ => ⟨he, n, hm.symm⟩

theorem StAt.drewN {w : World} {g h cap : Nat} {s : St} (k : StAt w g h cap s) (n : Nat) : StAt (w.drewN n) g h cap s :=
  k.below ⟨rfl, rfl, rfl, Nat.le_refl _, fun _ _ => rfl⟩

set_option maxHeartbeats 400000 in
theorem tears_long (s t : ByteArray) (x y : Int) (hl : 200 < s.size ∨ 100 < t.size ∨ s.size < t.size) (w : World) :
    Calls Try.prog 4 #[.string s, .string t, .agg #[.int .u8 x, .int .u8 y]] w fun e w' => e = .returned (.bool true) ∧ Below w.heap.size w w' := by
  by_cases h1 : 200 < s.size
  · go_enter Try.func4, Try.ntmps4
    go_wp2_with (go_at_call 9; refine (awake06 _).mono ?_; rintro e w1 ⟨rfl, b1⟩)
    go_ret
    exact ⟨rfl, box_below b1⟩
  · by_cases h2 : 100 < t.size
    · clear hl
      go_enter Try.func4, Try.ntmps4
      go_wp2_with (go_at_call 9; refine (awake06 _).mono ?_; rintro e w1 ⟨rfl, b1⟩)
      go_ret
      exact ⟨rfl, box_below b1⟩
    · have h3 : s.size < t.size := by omega
      clear hl
      go_enter Try.func4, Try.ntmps4
      go_wp2_with (go_at_call 9; refine (awake06 _).mono ?_; rintro e w1 ⟨rfl, b1⟩)
      go_ret
      exact ⟨rfl, box_below b1⟩

theorem write_full {b : List UInt8} {n left : Int} (a : Int) (l : List UInt8) (h : There b.length a l.length) (hl : (l.length : Int) ≤ left) : (St.mk b false true left n).write a l = (0, St.mk (pasteL b a.toNat l) false true (left - l.length) (n + l.length)) := by
  simp [St.write, h, hl, St.paste, pasteL]
theorem write_half {b : List UInt8} {n left : Int} (a : Int) (l : List UInt8) (h : There b.length a l.length) (hl : left < (l.length : Int)) : (St.mk b false true left n).write a l = (12, St.mk (pasteL b a.toNat (l.take left.toNat)) true false 0 (n + left)) := by
  have : ¬ (l.length : Int) ≤ left := by omega
  simp [St.write, h, this, St.paste, pasteL]
theorem write_off {b : List UInt8} {n left : Int} {ar : Bool} (a : Int) (l : List UInt8) (h : There b.length a l.length) : (St.mk b true ar left n).write a l = (12, St.mk b true ar left n) := by
  simp [St.write, h]

theorem pasteL_over {b l : List UInt8} {a k : Nat} (h : a + l.length ≤ b.length) (hk : k ≤ l.length) : pasteL (pasteL b a (l.take k)) a l = pasteL b a l := by
  have lk : (l.take k).length = k := by simp; omega
  have lp : (pasteL b a (l.take k)).length = b.length := by rw [pasteL_length]; omega
  apply List.ext_getElem?
  intro i
  rw [pasteL_get (by rw [lp]; omega), pasteL_get (by omega), pasteL_get (by omega)]
  by_cases c1 : i < a
  · rw [if_pos c1, if_pos c1, if_pos c1]
  · rw [if_neg c1, if_neg c1, if_neg c1]
    by_cases c2 : i < a + l.length
    · rw [if_pos c2, if_pos c2]
    · rw [if_neg c2, if_neg c2, if_neg (by omega)]

/-- 'was[:a] + s[:k] + was[a+k:]'. -/
theorem cat_paste (s t : ByteArray) (a k : Nat) (hk : k ≤ t.size) (h : a + k ≤ s.size) : s.extract 0 a ++ t.extract 0 k ++ s.extract (a + k) s.size = ofL (pasteL s.data.toList a (t.data.toList.take k)) := by
  have ls := size_data s
  have lt := size_data t
  apply ofL_eq
  have lk : (t.data.toList.take k).length = k := by simp; omega
  rw [data_append, data_append, data_extract, data_extract, data_extract]
  simp only [pasteL, lk, List.drop_zero, Nat.sub_zero]
  rw [List.take_of_length_le (l := s.data.toList.drop (a + k)) (by rw [List.length_drop]; omega)]

theorem tears_facts (s t : ByteArray) (a y : Int) (ha0 : 0 ≤ a) (ha1 : a ≤ s.size - t.size) (hy : 0 ≤ y) (hst : t.size ≤ s.size) :
    ∃ (e0 : Int) (k : Nat) (dk ar : Bool) (lf : Int) (L M : List UInt8), min y (t.size : Int) = k ∧ k ≤ t.size ∧ 0 ≤ lf ∧
      (St.mk s.data.toList false true (max y 0) 0).write a t.data.toList = (e0, ⟨L, dk, ar, lf, k⟩) ∧
      ((e0 = 0 ∧ dk = false ∧ (t.size : Int) ≤ y) ∨ (e0 = 12 ∧ dk = true ∧ y < (t.size : Int))) ∧
      (St.mk L true false 0 k).write a t.data.toList = (12, St.mk L true false 0 k) ∧
      (St.mk L false false 0 k).write a t.data.toList = (0, St.mk M false false 0 (k + t.size)) ∧ L.length = s.size ∧ M.length = s.size ∧
      s.extract 0 a.toNat ++ t.extract 0 k ++ s.extract (a + k).toNat s.size = ofL L ∧ s.extract 0 a.toNat ++ t ++ s.extract (a + t.size).toNat s.size = ofL M := by
  have ls := size_data s
  have lt := size_data t
  have hm : max y 0 = y := by omega
  have hA : There s.data.toList.length a (t.data.toList.length : Int) := ⟨by omega, by omega, by omega, by omega⟩
  have hM : (pasteL s.data.toList a.toNat t.data.toList).length = s.size := by rw [pasteL_length] <;> omega
  have hcM : s.extract 0 a.toNat ++ t ++ s.extract (a + t.size).toNat s.size = ofL (pasteL s.data.toList a.toNat t.data.toList) := by
    have := cat_paste s t a.toNat t.size (by omega) (by omega)
    rw [show t.extract 0 t.size = t by simp, List.take_of_length_le (by omega)] at this
    rw [← this, show (a + (t.size : Int)).toNat = a.toNat + t.size by omega]
  have key : ∀ k : Nat, k ≤ t.size → (St.mk (pasteL s.data.toList a.toNat (t.data.toList.take k)) true false 0 k).write a t.data.toList = (12, St.mk (pasteL s.data.toList a.toNat (t.data.toList.take k)) true false 0 k) ∧
      (St.mk (pasteL s.data.toList a.toNat (t.data.toList.take k)) false false 0 k).write a t.data.toList = (0, St.mk (pasteL s.data.toList a.toNat t.data.toList) false false 0 (k + t.size)) ∧
      (pasteL s.data.toList a.toNat (t.data.toList.take k)).length = s.size ∧
      s.extract 0 a.toNat ++ t.extract 0 k ++ s.extract (a + k).toNat s.size = ofL (pasteL s.data.toList a.toNat (t.data.toList.take k)) := by
    intro k hk
    have lk : (t.data.toList.take k).length = k := by simp; omega
    have lp : (pasteL s.data.toList a.toNat (t.data.toList.take k)).length = s.size := by rw [pasteL_length] <;> omega
    have hB : There (pasteL s.data.toList a.toNat (t.data.toList.take k)).length a (t.data.toList.length : Int) := by rw [lp]; exact ⟨by omega, by omega, by omega, by omega⟩
    refine ⟨write_off a _ hB, ?_, lp, ?_⟩
    · rw [write_plain a _ hB, pasteL_over (by omega) (by omega), lt]
    · rw [← cat_paste s t a.toNat k hk (by omega), show (a + (k : Int)).toNat = a.toNat + k by omega]
  by_cases hn : (t.size : Int) ≤ y
  · obtain ⟨k1, k2, k3, k4⟩ := key t.size (by omega)
    refine ⟨0, t.size, false, true, y - t.size, _, _, by omega, by omega, by omega, ?_, .inl ⟨rfl, rfl, hn⟩, k1, k2, k3, hM, k4, hcM⟩
    rw [hm, write_full a _ hA (by omega), List.take_of_length_le (by omega), lt]
    simp
  · obtain ⟨k1, k2, k3, k4⟩ := key y.toNat (by omega)
    refine ⟨12, y.toNat, true, false, 0, _, _, by omega, by omega, by omega, ?_, .inr ⟨rfl, rfl, by omega⟩, k1, k2, k3, hM, k4, hcM⟩
    rw [hm, write_half a _ hA (by omega), show (0 : Int) + y = (y.toNat : Int) by omega]

set_option maxHeartbeats 1000000 in
theorem tears_short (s t : ByteArray) (x y : Int) (hx : 0 ≤ x) (hx' : x ≤ 255) (hy : 0 ≤ y) (hy' : y ≤ 255) (hs : s.size ≤ 200) (ht : t.size ≤ 100) (hst : t.size ≤ s.size) (w : World) :
    Calls Try.prog 4 #[.string s, .string t, .agg #[.int .u8 x, .int .u8 y]] w fun e w' => e = .returned (.bool true) ∧ Below w.heap.size w w' := by
  go_enter Try.func4, Try.ntmps4
  go_wp2_with (go_at_call 9; refine (awake06 _).mono ?_; rintro e w1 ⟨rfl, b1⟩; have c0 := box_cell b1 0; have c1 := box_cell b1 1; simp only [List.getElem?_toArray, List.getElem?_cons_zero, List.getElem?_cons_succ] at c0 c1; have b2 := box_below b1; clear b1)
  obtain ⟨a, ha0, ha1, hax⟩ : ∃ a : Int, 0 ≤ a ∧ a ≤ s.size - t.size ∧ x % (s.size - t.size + 1) = a := by
    have := Int.emod_nonneg x (show (s.size : Int) - t.size + 1 ≠ 0 by omega)
    have := Int.emod_lt_of_pos x (show (0 : Int) < s.size - t.size + 1 by omega)
    exact ⟨_, by omega, by omega, rfl⟩
  rw [hax]
  clear c0 c1 hax hx hx'
  refine (of_any _ s (by omega)).mono ?_
  rintro e w2 ⟨g, h, cap, rfl, k2, hg, hh, b3⟩
  have b4 : Below w.heap.size w w2 := b2.trans (b3.mono b2.size)
  have z2 := b2.size
  clear b2 b3
  obtain ⟨e0, k, dk, ar, lf, L, M, hk0, hk, hk2, hwr, hc, hdark, hlast, lp, lq, cat1, cat2⟩ := tears_facts s t a y ha0 ha1 hy hst
  obtain ⟨X, hX, lX⟩ : ∃ X, s.extract 0 a.toNat = X ∧ X.size ≤ 200 := ⟨_, rfl, by simp; omega⟩
  obtain ⟨Y, hY, lY⟩ : ∃ Y, t.extract 0 k = Y ∧ Y.size ≤ 100 := ⟨_, rfl, by simp; omega⟩
  obtain ⟨Z, hZ, lZ⟩ : ∃ Z, s.extract (a + k).toNat s.size = Z ∧ Z.size ≤ 200 := ⟨_, rfl, by simp; omega⟩
  obtain ⟨V, hV, lV⟩ : ∃ V, s.extract (a + t.size).toNat s.size = V ∧ V.size ≤ 200 := ⟨_, rfl, by simp; omega⟩
  rw [hX, hY, hZ] at cat1
  rw [hX, hV] at cat2
  have HW := hide hwr; have HD := hide hdark; have HL := hide hlast; have LP := hide lp; have LQ := hide lq
  clear hwr hdark hlast lp lq
  go_wp2_with fail
  refine (arm_any k2 y (by omega)).mono ?_
  rintro e w3 ⟨rfl, k3, o3⟩
  go_wp2_with fail
  refine (write_to k3 a t HW.out (by omega) (by simp; omega)).mono ?_
  rintro e w4 ⟨rfl, k4, o4⟩
  go_wp2_with fail
  refine (read_to k4 0 s.size ⟨by omega, by omega, by omega, by simp only [LP.out]; omega⟩ (l := L) (List.take_of_length_le (by rw [List.length_drop, LP.out]; omega))).mono ?_
  rintro e w5 ⟨rfl, rfl⟩
  have n0 : IntKind.i64.wrap (a + (k : Int)) = a + (k : Int) := IntWalk.i64_in _ (by omega)
  have n1 : a ≤ (s.size : Int) := by omega
  have n2 : (k : Int) ≤ (t.size : Int) := by omega
  have n3 : 0 ≤ a + (k : Int) := by omega
  have n4 : a + (k : Int) ≤ (s.size : Int) := by omega
  have m0 : IntKind.i64.wrap (a + (t.size : Int)) = a + (t.size : Int) := IntWalk.i64_in _ (by omega)
  have m3 : 0 ≤ a + (t.size : Int) := by omega
  have m4 : a + (t.size : Int) ≤ (s.size : Int) := by omega
  have b5 : Below w.heap.size w w4 := o4.below (o3.below b4 (by omega) (by omega) b4.size) (by omega) (by omega) (Nat.le_trans b4.size o3.size)
  have z5 := b5.size
  clear b4 k2 k3 o3 o4
  rcases hc with ⟨rfl, rfl, hc⟩ | ⟨rfl, rfl, hc⟩
  · go_wp2_with fail
    go_quiet ((first | (go_at_call 16; exact quiet_left (power_any (k4.drewN _))) | (go_at_call 13; exact quiet_left (wrote_any (k4.drewN _)))))
    have k5 := k4.drewN nq
    have b6 : Below w.heap.size w (w4.drewN nq) := ⟨b5.os, b5.tape, b5.output, b5.size, b5.block⟩
    generalize w4.drewN nq = w5 at k5 b6
    clear k4 b5
    go_wp2_with fail
    refine (off_any k5).mono ?_
    rintro e w6 ⟨rfl, k6, o6⟩
    go_wp2_with fail
    refine (write_to k6 a t HD.out (by omega) (by simp; omega)).mono ?_
    rintro e w7 ⟨rfl, k7, o7⟩
    go_wp2_with fail
    refine (on_any k7).mono ?_
    rintro e w8 ⟨rfl, k8, o8⟩
    go_wp2_with fail
    refine (write_to k8 a t HL.out (by omega) (by simp; omega)).mono ?_
    rintro e w9 ⟨rfl, k9, o9⟩
    go_wp2_with fail
    refine (read_to k9 0 s.size ⟨by omega, by omega, by omega, by simp only [LQ.out]; omega⟩ (l := M) (List.take_of_length_le (by rw [List.length_drop, LQ.out]; omega))).mono ?_
    rintro e w10 ⟨rfl, rfl⟩
    go_wp2_with fail
    go_quiet (fail)
    go_wp2
    go_ret
    have b7 := o9.below (o8.below (o7.below (o6.below b6 (by omega) (by omega) b6.size) (by omega) (by omega) (Nat.le_trans b6.size o6.size)) (by omega) (by omega) (Nat.le_trans (Nat.le_trans b6.size o6.size) o7.size)) (by omega) (by omega) (Nat.le_trans (Nat.le_trans (Nat.le_trans b6.size o6.size) o7.size) o8.size)
    exact ⟨rfl, b7.os, b7.tape, b7.output, b7.size, b7.block⟩
  · obtain rfl : y = k := by omega
    have hcn : k < t.size := by omega
    have hcd : decide (t.size ≤ k) = false := by simp; omega
    go_wp2_with fail
    go_quiet ((first | (go_at_call 16; exact quiet_left (power_any (k4.drewN _))) | (go_at_call 13; exact quiet_left (wrote_any (k4.drewN _)))))
    have k5 := k4.drewN nq
    have b6 : Below w.heap.size w (w4.drewN nq) := ⟨b5.os, b5.tape, b5.output, b5.size, b5.block⟩
    generalize w4.drewN nq = w5 at k5 b6
    clear k4 b5
    go_wp2_with fail
    refine (off_any k5).mono ?_
    rintro e w6 ⟨rfl, k6, o6⟩
    go_wp2_with fail
    refine (write_to k6 a t HD.out (by omega) (by simp; omega)).mono ?_
    rintro e w7 ⟨rfl, k7, o7⟩
    go_wp2_with fail
    refine (on_any k7).mono ?_
    rintro e w8 ⟨rfl, k8, o8⟩
    go_wp2_with fail
    refine (write_to k8 a t HL.out (by omega) (by simp; omega)).mono ?_
    rintro e w9 ⟨rfl, k9, o9⟩
    go_wp2_with fail
    refine (read_to k9 0 s.size ⟨by omega, by omega, by omega, by simp only [LQ.out]; omega⟩ (l := M) (List.take_of_length_le (by rw [List.length_drop, LQ.out]; omega))).mono ?_
    rintro e w10 ⟨rfl, rfl⟩
    go_wp2_with fail
    go_quiet (fail)
    go_wp2
    go_ret
    have b7 := o9.below (o8.below (o7.below (o6.below b6 (by omega) (by omega) b6.size) (by omega) (by omega) (Nat.le_trans b6.size o6.size)) (by omega) (by omega) (Nat.le_trans (Nat.le_trans b6.size o6.size) o7.size)) (by omega) (by omega) (Nat.le_trans (Nat.le_trans (Nat.le_trans b6.size o6.size) o7.size) o8.size)
    exact ⟨rfl, b7.os, b7.tape, b7.output, b7.size, b7.block⟩
end Go.Proofs.Ytoekemceminciaa
