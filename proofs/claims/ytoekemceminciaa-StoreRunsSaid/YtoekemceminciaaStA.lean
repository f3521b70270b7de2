/- The walks of the statements of layer 6 that have no reference: awake, StoreApart, StoreTears. -/
import Derived.Test.YtoekemceminciaaSt
import Derived.Deep.QuietTactic
import Derived.BigQuiet
namespace Go.Proofs.Ytoekemceminciaa
open Go.RowKit
set_option linter.unusedVariables false
set_option linter.unusedSimpArgs false

theorem write_to {w : World} {g h cap : Nat} {s : St} (k : StAt w g h cap s) (a : Int) (t : ByteArray) {e' : Int} {s' : St} (hr : s.write a t.data.toList = (e', s')) (ht : t.size ≤ 140737488351232) (hw : s.wrote + t.size ≤ 9223372036854775807) :
    Calls Try.prog 11 #[.pointer (some ⟨g, 0, none⟩), .int .i64 a, .string t] w fun e w' => e = .returned (.int .i64 e') ∧ StAt w' g h cap s' ∧ Only g h w w' := by
  have := write_any k a t ht hw
  rw [hr] at this
  exact this

theorem read_to {w : World} {g h cap : Nat} {s : St} (k : StAt w g h cap s) (a m : Int) (hy : There s.b.length a m) {l : List UInt8} (hl : (s.b.drop a.toNat).take m.toNat = l) :
    Calls Try.prog 12 #[.pointer (some ⟨g, 0, none⟩), .int .i64 a, .int .i64 m] w fun e w' => e = .returned (.tuple #[.string (ofL l), .bool true]) ∧ w = w' := by
  have := read_yes k a m hy
  rw [hl] at this
  exact this

theorem new_to (w : World) (n : Int) (m : Nat) (hm : (min (max n 0) 1000).toNat = m) :
    Calls Try.prog 10 #[.int .i64 n] w (Made w { b := List.replicate m 0, dark := false, armed := false, left := 0, wrote := 0 }) := by
  have := new_any w n
  rw [hm] at this
  exact this

theorem ofL_toList (l : List UInt8) : (ofL l).toList = l := by rw [ByteArray.toList_eq, ofL_data]
attribute [local go_sem] ofL_toList

set_option maxHeartbeats 400000 in
theorem awake06 (w : World) : Calls Try.prog 9 #[] w fun e w' => e = .returned (.bool true) ∧ Below w.heap.size w w' := by
  go_enter Try.func9, Try.ntmps9
  go_wp2_with fail
  refine (new_to _ 3 3 rfl).mono ?_
  rintro e w1 ⟨g, h, cap, rfl, k1, hg, hh, b1⟩
  go_wp2_with fail
  refine (arm_any k1 1 (by omega)).mono ?_
  rintro e w2 ⟨rfl, k2, o2⟩
  go_wp2_with fail
  refine (write_to (e' := 12) (s' := ⟨[97, 0, 0], true, false, 0, 1⟩) k2 0 _ (by rfl) (by decide) (by decide)).mono ?_
  rintro e w3 ⟨rfl, k3, o3⟩
  go_wp2_with fail
  refine (read_to k3 0 2 (by decide) (l := [97, 0]) rfl).mono ?_
  rintro e w4 ⟨rfl, rfl⟩
  go_wp2_with (go_at_call 16; refine (power_any k3).mono ?_; rintro e w' ⟨rfl, rfl⟩)
  go_ret
  exact ⟨rfl, o3.below (o2.below b1 hg hh b1.size) hg hh (Nat.le_trans b1.size o2.size)⟩


theorem box_cell {w w1 : World} {cs : Array Value} {t : TypeId} (b1 : Below (w.alloc (.cells cs t)).heap.size (w.alloc (.cells cs t)) w1) (i : Nat) : w1.cell? ⟨w.heap.size, i, none⟩ = cs[i]? := by
  rw [b1.cell (by simp)]
  exact blk_cell (heap_alloc_new w _) i
theorem box_below {w w1 : World} {o : Obj} (b1 : Below (w.alloc o).heap.size (w.alloc o) w1) : Below w.heap.size w w1 := ((Below.refl _ _).alloc (Nat.le_refl _) _).trans (b1.mono (by simp))

set_option maxHeartbeats 400000 in
theorem apart_long (s t : ByteArray) (x y : Int) (hl : 50 < s.size ∨ 50 < t.size) (w : World) :
    Calls Try.prog 3 #[.string s, .string t, .agg #[.int .u8 x, .int .u8 y]] w fun e w' => e = .returned (.bool true) ∧ Below w.heap.size w w' := by
  by_cases h1 : 50 < s.size
  · go_enter Try.func3, Try.ntmps3
    go_wp2_with (go_at_call 9; refine (awake06 _).mono ?_; rintro e w1 ⟨rfl, b1⟩)
    go_ret
    exact ⟨rfl, box_below b1⟩
  · have h2 : 50 < t.size := by omega
    clear hl
    go_enter Try.func3, Try.ntmps3
    go_wp2_with (go_at_call 9; refine (awake06 _).mono ?_; rintro e w1 ⟨rfl, b1⟩)
    go_ret
    exact ⟨rfl, box_below b1⟩


/-- Bytes pasted over others. -/
def pasteL (b : List UInt8) (a : Nat) (l : List UInt8) : List UInt8 := b.take a ++ l ++ b.drop (a + l.length)
theorem pasteL_length {b : List UInt8} {a : Nat} {l : List UInt8} (h : a + l.length ≤ b.length) : (pasteL b a l).length = b.length := by simp [pasteL]; omega
theorem pasteL_get {b : List UInt8} {a : Nat} {l : List UInt8} (h : a + l.length ≤ b.length) (i : Nat) : (pasteL b a l)[i]? = if i < a then b[i]? else if i < a + l.length then l[i - a]? else b[i]? := by
  unfold pasteL
  have hm : min a b.length = a := by omega
  split
  · rw [List.getElem?_append_left (by simp; omega), List.getElem?_append_left (by simp; omega), List.getElem?_take, if_pos (by assumption)]
  · split
    · rw [List.getElem?_append_left (by simp; omega), List.getElem?_append_right (by simp; omega)]
      simp [hm]
    · rw [List.getElem?_append_right (by simp; omega), List.getElem?_drop]
      congr 1
      simp [hm]
      omega
theorem pasteL_cut {b : List UInt8} {a : Nat} {l : List UInt8} (h : a + l.length ≤ b.length) : ((pasteL b a l).drop a).take l.length = l := by
  have e : (b.take a).length = a := by simp; omega
  unfold pasteL
  rw [List.append_assoc, List.drop_append_of_le_length (by omega), List.drop_of_length_le (by omega)]
  simp
theorem pasteL_comm {b l m : List UInt8} {i j : Nat} (h1 : i + l.length ≤ j) (h2 : j + m.length ≤ b.length) : pasteL (pasteL b i l) j m = pasteL (pasteL b j m) i l := by
  apply List.ext_getElem?
  intro k
  rw [pasteL_get (by rw [pasteL_length (by omega)]; omega), pasteL_get (by omega), pasteL_get (by rw [pasteL_length (by omega)]; omega), pasteL_get (by omega)]
  by_cases c1 : k < i
  · rw [if_pos (by omega), if_pos c1, if_pos c1, if_pos (by omega)]
  · by_cases c2 : k < i + l.length
    · rw [if_pos (by omega), if_neg c1, if_pos c2, if_neg c1, if_pos c2]
    · rw [if_neg c1, if_neg c2, if_neg c1, if_neg c2]

theorem write_plain {b : List UInt8} {n : Int} (a : Int) (l : List UInt8) (h : There b.length a l.length) : (St.mk b false false 0 n).write a l = (0, St.mk (pasteL b a.toNat l) false false 0 (n + l.length)) := by
  simp [St.write, h, St.paste, pasteL]

theorem extract_ofL (l : List UInt8) (i j : Nat) : (ofL l).extract i j = ofL ((l.drop i).take (j - i)) := by
  rw [← ofL_of ((ofL l).extract i j)]
  congr 1
  simp [ofL]

set_option maxHeartbeats 400000 in
theorem apart_short (s t : ByteArray) (x y : Int) (hx : 0 ≤ x) (hx' : x ≤ 255) (hy : 0 ≤ y) (hy' : y ≤ 255) (hs : s.size ≤ 50) (ht : t.size ≤ 50) (w : World) :
    Calls Try.prog 3 #[.string s, .string t, .agg #[.int .u8 x, .int .u8 y]] w fun e w' => e = .returned (.bool true) ∧ Below w.heap.size w w' := by
  go_enter Try.func3, Try.ntmps3
  go_wp2_with (go_at_call 9; refine (awake06 _).mono ?_; rintro e w1 ⟨rfl, b1⟩)
  have c0 := box_cell b1 0
  have c1 := box_cell b1 1
  simp only [List.getElem?_toArray, List.getElem?_cons_zero, List.getElem?_cons_succ] at c0 c1
  have b2 := box_below b1
  clear b1
  go_quiet (fail)
  have b3 : Below w.heap.size w (w1.drewN nq) := ⟨b2.os, b2.tape, b2.output, b2.size, b2.block⟩
  obtain ⟨a, ha0, ha1, hax⟩ : ∃ a : Int, 0 ≤ a ∧ a ≤ 49 ∧ x % 50 = a := ⟨_, by omega, by omega, rfl⟩
  obtain ⟨b, hb0, hb1, hby⟩ : ∃ b : Int, 100 ≤ b ∧ b ≤ 149 ∧ 100 + y % 50 = b := ⟨_, by omega, by omega, rfl⟩
  rw [hax, hby]
  generalize w1.drewN nq = w2 at b3
  clear b2 c0 c1 hax hby
  go_wp2_with fail
  refine (new_to _ 200 200 rfl).mono ?_
  rintro e w3 ⟨g, h, cap, rfl, k3, hg, hh, b4⟩
  go_wp2_with fail
  refine (new_to _ 200 200 rfl).mono ?_
  rintro e w4 ⟨g', h', cap', rfl, k4', hg', hh', b5⟩
  have k4 := k3.below b5
  have lg : g < w3.heap.size := (Array.getElem?_eq_some_iff.1 k3.blk).1
  have lh : h < w3.heap.size := k3.lt
  have b6 : Below w.heap.size w w4 := (b3.trans (b4.mono b3.size)).trans (b5.mono (Nat.le_trans b3.size b4.size))
  have z3 := b3.size
  have z4 := b4.size
  have z6 := b6.size
  clear b3 b4 b5 k3
  obtain ⟨Z, hZ, lZ⟩ : ∃ Z : List UInt8, List.replicate 200 0 = Z ∧ Z.length = 200 := ⟨_, rfl, List.length_replicate⟩
  rw [hZ] at k4 k4'
  clear hZ
  have ls := size_data s
  have lt := size_data t
  have hA : There 200 a (s.data.toList.length : Int) := ⟨by omega, by omega, by omega, by omega⟩
  have hB : There 200 b (t.data.toList.length : Int) := ⟨by omega, by omega, by omega, by omega⟩
  have e1 := write_plain (b := Z) (n := 0) a s.data.toList (by rw [lZ]; exact hA)
  have l1 : (pasteL Z a.toNat s.data.toList).length = 200 := by rw [pasteL_length, lZ]; omega
  have e2 := write_plain (n := 0 + s.data.toList.length) b t.data.toList (by rw [l1]; exact hB)
  have e3 := write_plain (b := Z) (n := 0) b t.data.toList (by rw [lZ]; exact hB)
  have l3 : (pasteL Z b.toNat t.data.toList).length = 200 := by rw [pasteL_length, lZ]; omega
  have e4 := write_plain (n := 0 + t.data.toList.length) a s.data.toList (by rw [l3]; exact hA)
  rw [← pasteL_comm (by omega) (by omega)] at e4
  have l2 : (pasteL (pasteL Z a.toNat s.data.toList) b.toNat t.data.toList).length = 200 := by rw [pasteL_length, l1]; rw [l1]; omega
  have e5 : (((pasteL (pasteL Z a.toNat s.data.toList) b.toNat t.data.toList)).drop a.toNat).take s.data.toList.length = s.data.toList := by
    rw [pasteL_comm (by omega) (by omega)]
    exact pasteL_cut (by rw [l3]; omega)
  have e6 := pasteL_cut (b := pasteL Z a.toNat s.data.toList) (a := b.toNat) (l := t.data.toList) (by rw [l1]; omega)
  generalize pasteL (pasteL Z a.toNat s.data.toList) b.toNat t.data.toList = L at e2 e4 l2 e5 e6
  have E1 := hide e1; have E2 := hide e2; have E3 := hide e3; have E4 := hide e4; have E5 := hide e5; have E6 := hide e6; have LL := hide l2; have LS := hide ls; have LT := hide lt
  clear e1 e2 e3 e4 e5 e6 l1 l3 l2 ls lt hA hB lZ
  go_wp2_with fail
  refine (write_to k4 a s E1.out (by omega) (by simp; omega)).mono ?_
  rintro e w5 ⟨rfl, k5, o5⟩
  have k5' := k4'.keep o5 (by omega) (by omega) (by omega) (by omega)
  go_wp2_with fail
  refine (write_to k5 b t E2.out (by omega) (by simp [LS.out]; omega)).mono ?_
  rintro e w6 ⟨rfl, k6, o6⟩
  have k6' := k5'.keep o6 (by omega) (by omega) (by omega) (by omega)
  go_wp2_with fail
  refine (write_to k6' b t E3.out (by omega) (by simp; omega)).mono ?_
  rintro e w7 ⟨rfl, k7', o7⟩
  have k7 := k6.keep o7 (by omega) (by omega) (by omega) (by omega)
  go_wp2_with fail
  refine (write_to k7' a s E4.out (by omega) (by simp [LT.out]; omega)).mono ?_
  rintro e w8 ⟨rfl, k8', o8⟩
  have k8 := k7.keep o8 (by omega) (by omega) (by omega) (by omega)
  go_wp2_with fail
  refine (read_to k8 0 200 ⟨by omega, by omega, by omega, by simp only [LL.out]; omega⟩ (l := L) (List.take_of_length_le (by rw [List.length_drop, LL.out]; omega))).mono ?_
  rintro e w9 ⟨rfl, rfl⟩
  go_wp2_with fail
  refine (read_to k8' 0 200 ⟨by omega, by omega, by omega, by simp only [LL.out]; omega⟩ (l := L) (List.take_of_length_le (by rw [List.length_drop, LL.out]; omega))).mono ?_
  rintro e w9 ⟨rfl, rfl⟩
  have f0 : (ofL L).size = 200 := by rw [ofL_size, LL.out]
  have f1 : (ofL L).extract a.toNat (a + s.size).toNat = s := by
    rw [extract_ofL, show (a + s.size).toNat - a.toNat = s.data.toList.length by rw [LS.out]; omega, E5.out, ofL_of]
  have f2 : (ofL L).extract b.toNat (b + t.size).toNat = t := by
    rw [extract_ofL, show (b + t.size).toNat - b.toNat = t.data.toList.length by rw [LT.out]; omega, E6.out, ofL_of]
  go_wp2_with (go_at_call 13; refine (wrote_any k8).mono ?_; rintro e w' ⟨rfl, rfl⟩)
  go_ret
  exact ⟨rfl, o8.below (o7.below (o6.below (o5.below b6 (by omega) (by omega) b6.size) (by omega) (by omega) (Nat.le_trans b6.size o5.size)) (by omega) (by omega) (Nat.le_trans (Nat.le_trans b6.size o5.size) o6.size)) (by omega) (by omega) (Nat.le_trans (Nat.le_trans (Nat.le_trans b6.size o5.size) o6.size) o7.size)⟩
end Go.Proofs.Ytoekemceminciaa
