/- Plain law of layer 7: what a commit leaves, torn or not. -/
import Derived.Test.YtocbaapnajdcfaaDoorPl
namespace Go.Proofs.YtocbaapnajdcfaaDoor
open Go.RowKit
set_option linter.unusedVariables false
set_option linter.unusedSimpArgs false

theorem slotK_get (b : List UInt8) (k i : Nat) : (slotK b k)[i]? = if i < 74 then b[74 * k + i]? else none := by
  unfold slotK
  rw [List.getElem?_take]
  split
  · rw [List.getElem?_drop]
  · rfl
theorem slot_other {b X : List UInt8} {a c : Nat} (hne : a ≠ c) (hX : X.length ≤ 74) (hl : 74 * a + 74 ≤ b.length) : slotK (pasteL b (74 * a) X) c = slotK b c := by
  apply List.ext_getElem?
  intro i
  rw [slotK_get, slotK_get]
  split
  · rw [pasteL_get (by omega)]
    by_cases h1 : 74 * c + i < 74 * a
    · rw [if_pos h1]
    · rw [if_neg h1, if_neg (by omega)]
  · rfl
theorem slot_full {b X : List UInt8} {a : Nat} (hX : X.length = 74) (hl : 74 * a + 74 ≤ b.length) : slotK (pasteL b (74 * a) X) a = X := by
  apply List.ext_getElem?
  intro i
  rw [slotK_get]
  split
  · rw [pasteL_get (by omega), if_neg (by omega), if_pos (by omega)]
    congr 1
    omega
  · rw [List.getElem?_eq_none (by omega)]
theorem slot_mark {b X : List UInt8} {a : Nat} (hX : X.length ≤ 73) (hl : 74 * a + 74 ≤ b.length) : (slotK (pasteL b (74 * a) (0 :: X)) a).take 1 = [0] := by
  apply List.ext_getElem?
  intro i
  rw [List.getElem?_take]
  split
  · rw [slotK_get, if_pos (by omega), pasteL_get (by simp; omega), if_neg (by omega), if_pos (by simp; omega)]
    have : i = 0 := by omega
    subst this
    simp
  · rw [List.getElem?_eq_none (by simp; omega)]

theorem slot0_eq (b : List UInt8) : slot0 b = slotK b 0 := rfl
theorem slot1_eq (b : List UInt8) : slot1 b = slotK b 1 := rfl

theorem newestP_cases {b : List UInt8} (hl : 148 ≤ b.length) :
    (newestP b = (0, Rec.zero, false) ∧ wholeP (slotK b 0) = false ∧ wholeP (slotK b 1) = false) ∨
    (newestP b = (0, recOf (slotK b 0), true) ∧ wholeP (slotK b 0) = true ∧ (wholeP (slotK b 1) = false ∨ ¬ (recOf (slotK b 0)).seq < (recOf (slotK b 1)).seq)) ∨
    (newestP b = (1, recOf (slotK b 1), true) ∧ wholeP (slotK b 1) = true ∧ (wholeP (slotK b 0) = false ∨ (recOf (slotK b 0)).seq < (recOf (slotK b 1)).seq)) := by
  have hn : ¬ b.length < 148 := by omega
  unfold newestP
  rw [if_neg hn, slot0_eq, slot1_eq]
  cases h0 : wholeP (slotK b 0) <;> cases h1 : wholeP (slotK b 1)
  · left; simp
  · right; right; simp
  · right; left; simp
  · by_cases hs : (recOf (slotK b 0)).seq < (recOf (slotK b 1)).seq
    · right; right; simp [hs]
    · right; left; simp [hs]

/-- Where the next record goes. -/
def nextA (x : Int × Rec × Bool) : Nat := if x.2.2 = true then (if x.1 = 0 then 1 else 0) else x.1.toNat
theorem nextA_eq (b : List UInt8) : ((nextA (newestP b) : Nat) : Int) = (if (newestP b).2.2 = true then 1 - (newestP b).1 else (newestP b).1) := by
  have h := newestP_at b
  unfold nextA
  generalize newestP b = x at *
  obtain ⟨i, R, f⟩ := x
  simp only at h ⊢
  by_cases hl : f = true
  · subst hl
    rcases h with rfl | rfl <;> simp
  · have : f = false := by simpa using hl
    subst this
    rcases h with rfl | rfl <;> simp

theorem new_full {b : List UInt8} (hl : 148 ≤ b.length) {T : Rec} (ok : T.ok) (hs : (newestP b).2.2 = true → (newestP b).2.1.seq < T.seq) :
    newestP (pasteL b (74 * nextA (newestP b)) (165 :: slotL T)) = (((nextA (newestP b) : Nat) : Int), T, true) := by
  have hX : (165 :: slotL T).length = 74 := by simp [slotL_length ok]
  have hw := wholeP_slot ok
  have hr := (recOf_slot ok).1
  obtain ⟨h, h0, h1⟩ | ⟨h, h0, h1⟩ | ⟨h, h0, h1⟩ := newestP_cases hl
  · rw [h]
    have ha : nextA (0, Rec.zero, false) = 0 := rfl
    rw [ha]
    have e0 := slot_full (b := b) (a := 0) hX (by omega)
    have e1 := slot_other (b := b) (X := 165 :: slotL T) (a := 0) (c := 1) (by omega) (by omega) (by omega)
    have hlen : ¬ (pasteL b (74 * 0) (165 :: slotL T)).length < 148 := by rw [pasteL_length (by omega)]; omega
    unfold newestP
    rw [if_neg hlen, slot0_eq, slot1_eq, e0, e1, h1, hw, hr]
    simp
  · rw [h] at hs ⊢
    have hs2 : (recOf (slotK b 0)).seq < T.seq := hs rfl
    have ha : nextA (0, recOf (slotK b 0), true) = 1 := rfl
    rw [ha]
    have e1 := slot_full (b := b) (a := 1) hX (by omega)
    have e0 := slot_other (b := b) (X := 165 :: slotL T) (a := 1) (c := 0) (by omega) (by omega) (by omega)
    have hlen : ¬ (pasteL b (74 * 1) (165 :: slotL T)).length < 148 := by rw [pasteL_length (by omega)]; omega
    unfold newestP
    rw [if_neg hlen, slot0_eq, slot1_eq, e0, e1, h0, hw, hr]
    simp [hs2]
  · rw [h] at hs ⊢
    have hs2 : (recOf (slotK b 1)).seq < T.seq := hs rfl
    have ha : nextA (1, recOf (slotK b 1), true) = 0 := rfl
    rw [ha]
    have e0 := slot_full (b := b) (a := 0) hX (by omega)
    have e1 := slot_other (b := b) (X := 165 :: slotL T) (a := 0) (c := 1) (by omega) (by omega) (by omega)
    have hlen : ¬ (pasteL b (74 * 0) (165 :: slotL T)).length < 148 := by rw [pasteL_length (by omega)]; omega
    unfold newestP
    rw [if_neg hlen, slot0_eq, slot1_eq, e0, e1, h0, hw, hr]
    have : ¬ T.seq < (recOf (slotK b 1)).seq := by omega
    simp [this]

theorem new_torn {b X : List UInt8} (hl : 148 ≤ b.length) (hX : X.length ≤ 73) :
    newestP (pasteL b (74 * nextA (newestP b)) (0 :: X)) = newestP b := by
  have hX2 : (0 :: X).length ≤ 74 := by simp; omega
  have hm : ∀ a, 74 * a + 74 ≤ b.length → wholeP (slotK (pasteL b (74 * a) (0 :: X)) a) = false := fun a ha => wholeP_mark (by rw [slot_mark hX ha]; decide)
  obtain ⟨h, h0, h1⟩ | ⟨h, h0, h1⟩ | ⟨h, h0, h1⟩ := newestP_cases hl
  · rw [h]
    have ha : nextA (0, Rec.zero, false) = 0 := rfl
    rw [ha]
    have e0 := hm 0 (by omega)
    have e1 := slot_other (b := b) (X := 0 :: X) (a := 0) (c := 1) (by omega) (by omega) (by omega)
    have hlen : ¬ (pasteL b (74 * 0) (0 :: X)).length < 148 := by rw [pasteL_length (by omega)]; omega
    unfold newestP
    rw [if_neg hlen, slot0_eq, slot1_eq, e0, e1, h1]
    simp
  · rw [h]
    have ha : nextA (0, recOf (slotK b 0), true) = 1 := rfl
    rw [ha]
    have e1 := hm 1 (by omega)
    have e0 := slot_other (b := b) (X := 0 :: X) (a := 1) (c := 0) (by omega) (by omega) (by omega)
    have hlen : ¬ (pasteL b (74 * 1) (0 :: X)).length < 148 := by rw [pasteL_length (by omega)]; omega
    unfold newestP
    rw [if_neg hlen, slot0_eq, slot1_eq, e0, e1, h0]
    simp
  · rw [h]
    have ha : nextA (1, recOf (slotK b 1), true) = 0 := rfl
    rw [ha]
    have e0 := hm 0 (by omega)
    have e1 := slot_other (b := b) (X := 0 :: X) (a := 0) (c := 1) (by omega) (by omega) (by omega)
    have hlen : ¬ (pasteL b (74 * 0) (0 :: X)).length < 148 := by rw [pasteL_length (by omega)]; omega
    unfold newestP
    rw [if_neg hlen, slot0_eq, slot1_eq, e0, e1, h0]
    simp

theorem paste_more {b l l' : List UInt8} {a : Nat} (h : a + l.length + l'.length ≤ b.length) : pasteL (pasteL b a l) (a + l.length) l' = pasteL b a (l ++ l') := by
  apply List.ext_getElem?
  intro i
  rw [pasteL_get (by rw [pasteL_length (by omega)]; omega), pasteL_get (by omega), pasteL_get (by simp; omega)]
  by_cases c0 : i < a
  · rw [if_pos (by omega), if_pos c0, if_pos c0]
  · by_cases c1 : i < a + l.length
    · rw [if_pos c1, if_neg c0, if_pos c1, if_neg c0, if_pos (by simp; omega), List.getElem?_append_left (by omega)]
    · by_cases c2 : i < a + l.length + l'.length
      · rw [if_neg c1, if_pos c2, if_neg c0, if_pos (by simp; omega), List.getElem?_append_right (by omega)]
        congr 1
        omega
      · rw [if_neg c1, if_neg c2, if_neg c0, if_neg c1, if_neg c0, if_neg (by simp; omega)]
theorem paste_head {b l : List UInt8} {a : Nat} {x y : UInt8} (h : a + 1 + l.length ≤ b.length) : pasteL (pasteL b a (x :: l)) a [y] = pasteL b a (y :: l) := by
  apply List.ext_getElem?
  intro i
  have hl : (x :: l).length = l.length + 1 := rfl
  rw [pasteL_get (by rw [pasteL_length (by simp; omega)]; simp; omega), pasteL_get (by simp; omega), pasteL_get (by simp; omega)]
  by_cases c0 : i < a
  · rw [if_pos c0, if_pos c0, if_pos c0]
  · by_cases c1 : i = a
    · subst c1
      rw [if_neg c0, if_pos (by simp), if_neg c0, if_pos (by simp)]
      simp
    · rw [if_neg c0, if_neg (by simp; omega), if_neg c0, if_neg c0]
      by_cases c2 : i < a + (x :: l).length
      · rw [if_pos c2, if_pos (by simpa using c2)]
        obtain ⟨j, hj⟩ : ∃ j, i - a = j + 1 := ⟨i - a - 1, by omega⟩
        rw [hj]
        simp
      · rw [if_neg c2, if_neg (by simpa using c2)]
end Go.Proofs.YtocbaapnajdcfaaDoor
