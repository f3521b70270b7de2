/- Plain law of layer 7: the program's whole slots are the document's; its commit's bytes are the document's. -/
import Derived.Test.YtocbaapnajdcfaaDoorPv
namespace Go.Proofs.YtocbaapnajdcfaaDoor
open Go.RowKit
set_option linter.unusedVariables false
set_option linter.unusedSimpArgs false

theorem u8_of {m : Nat} {a : UInt8} (h : m = a.toNat) : UInt8.ofNat m = a := by subst h; simp
theorem beL_four (a b c d : UInt8) : beL (numB [a, b, c, d]) 4 = [a, b, c, d] := by
  have := a.toNat_lt; have := b.toNat_lt; have := c.toNat_lt; have := d.toNat_lt
  simp only [beL, numB, List.foldl_cons, List.foldl_nil]
  rw [u8_of (a := a) (by omega), u8_of (a := b) (by omega), u8_of (a := c) (by omega), u8_of (a := d) (by omega)]
theorem beL_two (a b : UInt8) : beL (numB [a, b]) 2 = [a, b] := by
  have := a.toNat_lt; have := b.toNat_lt
  simp only [beL, numB, List.foldl_cons, List.foldl_nil]
  rw [u8_of (a := a) (by omega), u8_of (a := b) (by omega)]
theorem beL_one (a : UInt8) : beL (numB [a]) 1 = [a] := by
  have := a.toNat_lt
  simp only [beL, numB, List.foldl_cons, List.foldl_nil]
  rw [u8_of (a := a) (by omega)]

theorem zeros_of (m : List UInt8) (h : ∀ b ∈ m.dropWhile (· == 0), b = 0) : ∀ b ∈ m, b = 0 := by
  induction m with
  | nil => intro b hb; cases hb
  | cons c t ih =>
    by_cases hc : (c == 0) = true
    · rw [List.dropWhile_cons, if_pos hc] at h
      intro b hb
      rcases List.mem_cons.1 hb with rfl | hb
      · simpa using hc
      · exact ih h b hb
    · rw [List.dropWhile_cons, if_neg hc] at h
      exact h
theorem trim_zero {m : List UInt8} (h : Lib.trimB m 0 = []) : m = List.replicate m.length 0 := by
  have h1 : ∀ b ∈ Lib.trimRightB m 0, b = 0 := zeros_of _ (fun b hb => by
    have e : (Lib.trimRightB m 0).dropWhile (· == 0) = [] := h
    rw [e] at hb; cases hb)
  have h2 : ∀ b ∈ m.reverse, b = 0 := zeros_of _ (fun b hb => h1 b (by unfold Lib.trimRightB; exact List.mem_reverse.2 hb))
  exact List.eq_replicate_iff.2 ⟨rfl, fun b hb => h2 b (List.mem_reverse.2 hb)⟩

theorem whole_slot {l : List UInt8} (hl : l.length = 74) (h : wholeP l = true) : slotL (recOf l) = l.drop 1 := by
  unfold wholeP at h
  simp only [Bool.and_eq_true, decide_eq_true_eq] at h
  obtain ⟨⟨⟨h1, h2⟩, h3⟩, h4⟩ := h
  match l, hl with
  | m :: a :: b :: c :: d :: e :: f :: g :: rest, hl =>
    have hr : rest.length = 66 := by simpa using hl
    have hrec : recOf (m :: a :: b :: c :: d :: e :: f :: g :: rest) = ⟨numB [a, b, c, d], numB [e, f], rest.take (numB [g])⟩ := rfl
    have h3' : numB [g] ≤ 64 := h3
    have h4' : Lib.trimB ((rest.drop (numB [g])).take (64 - numB [g])) 0 = [] := by
      have : (m :: a :: b :: c :: d :: e :: f :: g :: rest).drop (8 + numB [g]) = rest.drop (numB [g]) := by
        rw [← List.drop_drop]; rfl
      rw [← this]; exact h4
    have h1' : openOk (a :: b :: c :: d :: e :: f :: g :: rest) = true := h1
    rw [hrec]
    show slotL _ = a :: b :: c :: d :: e :: f :: g :: rest
    have hn1 := beL_one g
    generalize numB [g] = n at *
    obtain ⟨D, hD⟩ : ∃ D, rest.take n = D := ⟨_, rfl⟩
    have hDl : D.length = n := by rw [← hD, List.length_take]; omega
    have hz := trim_zero h4'
    have hzl : ((rest.drop n).take (64 - n)).length = 64 - n := by simp; omega
    rw [hzl] at hz
    have hrest : rest = D ++ List.replicate (64 - n) 0 ++ rest.drop 64 := by
      rw [← hz, ← hD]
      have e1 : rest.drop n = (rest.drop n).take (64 - n) ++ (rest.drop n).drop (64 - n) := (List.take_append_drop _ _).symm
      rw [List.drop_drop, show n + (64 - n) = 64 by omega] at e1
      rw [List.append_assoc, ← e1, List.take_append_drop]
    have htl : (rest.drop 64).length = 2 := by simp; omega
    rw [hD]
    match hxy : rest.drop 64, htl with
    | [x, y], _ =>
      rw [hxy] at hrest
      have hbase : baseL ⟨numB [a, b, c, d], numB [e, f], D⟩ = a :: b :: c :: d :: e :: f :: g :: (D ++ List.replicate (64 - n) 0) := by
        unfold baseL headL
        simp only [hDl]
        rw [beL_four, beL_two, hn1]
        simp
      unfold slotL Crc.sealL
      rw [hbase]
      have hsum : Crc.sum ((a :: b :: c :: d :: e :: f :: g :: (D ++ List.replicate (64 - n) 0)) ++ [x, y]) = 0 := by
        have : (a :: b :: c :: d :: e :: f :: g :: (D ++ List.replicate (64 - n) 0)) ++ [x, y] = a :: b :: c :: d :: e :: f :: g :: rest := by
          rw [hrest]; simp
        rw [this]
        simp only [openOk, Bool.and_eq_true, decide_eq_true_eq] at h1'
        exact h1'.2
      obtain ⟨e1, e2⟩ := (Crc.sum_two _ x y).1 hsum
      rw [u8_of e1.symm, u8_of e2.symm]
      rw [hrest]
      simp

theorem whole_eq {l : List UInt8} (hl : l.length = 74) : wholeP l = wholeR l := by
  cases h : wholeP l with
  | true =>
    have hs := whole_slot hl h
    unfold wholeP at h
    simp only [Bool.and_eq_true, decide_eq_true_eq] at h
    unfold wholeR
    simp [h.1.1.2, h.1.2, hs]
  | false =>
    cases hr : wholeR l with
    | false => rfl
    | true =>
      unfold wholeR at hr
      simp only [Bool.and_eq_true, decide_eq_true_eq] at hr
      obtain ⟨⟨h2, h3⟩, h4⟩ := hr
      have ok := recOf_ok h3
      match l, hl with
      | m :: t, hl =>
        have hm : m = 165 := by
          have : numB [m] = 165 := h2
          rw [numB_one] at this
          exact (u8_of this.symm).symm
        have ht : slotL (recOf (m :: t)) = t := h4
        have := wholeP_slot ok
        rw [ht, ← hm] at this
        rw [this] at h
        cases h

theorem slotK_len {b : List UInt8} {k : Nat} (h : 74 * k + 74 ≤ b.length) : (slotK b k).length = 74 := by simp [slotK]; omega
/-- The newest of the two slots: the program's, the document's. -/
theorem newest_eq {b : List UInt8} (hl : 148 ≤ b.length) : (newestR b).2 = (newestP b).2.1 ∧ (newestR b).1 = (if (newestP b).2.2 = true then (newestP b).1 else -1) := by
  have e0 : b.take 74 = slotK b 0 := rfl
  have e1 : (b.drop 74).take 74 = slotK b 1 := rfl
  have w0 := whole_eq (slotK_len (b := b) (k := 0) (by omega))
  have w1 := whole_eq (slotK_len (b := b) (k := 1) (by omega))
  unfold newestR
  rw [e0, e1, ← w0, ← w1]
  rcases newestP_cases hl with ⟨h, h0, h1⟩ | ⟨h, h0, h1⟩ | ⟨h, h0, h1⟩
  · rw [h, h0, h1]; simp
  · rw [h, h0]
    rcases h1 with h1 | h1
    · rw [h1]; simp
    · have : decide ((recOf (slotK b 1)).seq ≤ (recOf (slotK b 0)).seq) = true := by simp; omega
      rw [this]; simp
  · rw [h, h0]
    rcases h1 with h1 | h1
    · rw [h1]; simp
    · have : decide ((recOf (slotK b 1)).seq ≤ (recOf (slotK b 0)).seq) = false := by simp; omega
      rw [this]; simp
theorem nextA_R {b : List UInt8} (hl : 148 ≤ b.length) : nextA (newestP b) = if (newestR b).1 = 0 then 1 else 0 := by
  rw [(newest_eq hl).2]
  rcases newestP_cases hl with ⟨h, _, _⟩ | ⟨h, _, _⟩ | ⟨h, _, _⟩ <;> rw [h] <;> simp [nextA]

/-- The places of a commit's bytes, and the bytes. -/
def placesL (at' k : Nat) : List Nat := at' :: (List.range k).map (fun i => at' + 1 + i)
theorem placesL_succ (at' k : Nat) : placesL at' (k + 1) = placesL at' k ++ [at' + 1 + k] := by simp [placesL, List.range_succ]
theorem placesL_length (at' k : Nat) : (placesL at' k).length = k + 1 := by simp [placesL]
def stepsL (b : List UInt8) (P : List Nat) (Q : List UInt8) (i : Nat) : List UInt8 := ((P.zip Q).take i).foldl (fun b x => b.set x.1 x.2) b
theorem stepsL_succ (b : List UInt8) {P : List Nat} {Q : List UInt8} {i p : Nat} {x : UInt8} (hp : P[i]? = some p) (hx : Q[i]? = some x) : stepsL b P Q (i + 1) = (stepsL b P Q i).set p x := by
  have h : (P.zip Q)[i]? = some (p, x) := by rw [List.getElem?_zip_eq_some]; exact ⟨hp, hx⟩
  unfold stepsL
  rw [List.take_add_one, h]
  simp
theorem stepsL_length (b : List UInt8) (P : List Nat) (Q : List UInt8) (i : Nat) : (stepsL b P Q i).length = b.length := by
  unfold stepsL
  generalize (P.zip Q).take i = l
  induction l generalizing b with
  | nil => rfl
  | cons c t ih => rw [List.foldl_cons, ih, List.length_set]

theorem set_paste {b X : List UInt8} {a : Nat} {x : UInt8} (h : a + X.length + 1 ≤ b.length) : (pasteL b a X).set (a + X.length) x = pasteL b a (X ++ [x]) := by
  apply List.ext_getElem?
  intro i
  rw [List.getElem?_set, pasteL_get (by omega), pasteL_get (by simp; omega), pasteL_length (by omega)]
  simp only [List.length_append, List.length_cons, List.length_nil]
  by_cases h1 : i < a
  · rw [if_neg (by omega), if_pos h1, if_pos h1]
  · by_cases h2 : i < a + X.length
    · rw [if_neg (by omega), if_neg h1, if_pos h2, if_neg h1, if_pos (by omega), List.getElem?_append_left (by omega)]
    · by_cases h3 : i = a + X.length
      · subst h3
        rw [if_pos rfl, if_pos (by omega), if_neg (by omega), if_pos (by omega), List.getElem?_append_right (by omega)]
        simp
      · rw [if_neg (by omega), if_neg h1, if_neg h2, if_neg h1, if_neg (by omega)]
theorem set_one {b : List UInt8} {a : Nat} (x : UInt8) (h : a < b.length) : b.set a x = pasteL b a [x] := by
  have := set_paste (b := b) (X := []) (a := a) (x := x) (by simp; omega)
  simpa [pasteL_none] using this
theorem set_head {b X : List UInt8} {a : Nat} {x y : UInt8} (h : a + 1 + X.length ≤ b.length) : (pasteL b a (x :: X)).set a y = pasteL b a (y :: X) := by
  apply List.ext_getElem?
  intro i
  rw [List.getElem?_set, pasteL_get (by simp; omega), pasteL_get (by simp; omega), pasteL_length (by simp; omega)]
  simp only [List.length_cons]
  by_cases h1 : i < a
  · rw [if_neg (by omega), if_pos h1, if_pos h1]
  · by_cases h3 : i = a
    · subst h3
      rw [if_pos rfl, if_pos (by omega), if_neg (by omega), if_pos (by omega)]
      simp
    · rw [if_neg (by omega), if_neg h1, if_neg h1]
      by_cases h2 : i < a + (X.length + 1)
      · rw [if_pos h2, if_pos h2]
        obtain ⟨j, hj⟩ : ∃ j, i - a = j + 1 := ⟨i - a - 1, by omega⟩
        rw [hj]; rfl
      · rw [if_neg h2, if_neg h2]

theorem steps_cut {b : List UInt8} {a : Nat} {T : Rec} (ok : T.ok) (hl : 74 * a + 74 ≤ b.length) :
    ∀ i, i ≤ 75 → stepsL b (placesL (74 * a) 73 ++ [74 * a]) (0 :: slotL T ++ [165]) i = cutL b a T i := by
  have hs := slotL_length ok
  have hP : ∀ i, i < 73 → (placesL (74 * a) 73 ++ [74 * a])[i + 1]? = some (74 * a + 1 + i) := fun i hi => by
    rw [List.getElem?_append_left (by rw [placesL_length]; omega)]
    simp [placesL, hi]
  have hQ : ∀ i (hi : i < 73), (0 :: slotL T ++ [165])[i + 1]? = some ((slotL T)[i]'(by omega)) := fun i hi => by
    rw [List.cons_append, List.getElem?_cons_succ, List.getElem?_append_left (by omega), List.getElem?_eq_getElem]
  have key : ∀ i, i ≤ 73 → stepsL b (placesL (74 * a) 73 ++ [74 * a]) (0 :: slotL T ++ [165]) (i + 1) = pasteL b (74 * a) (0 :: (slotL T).take i) := by
    intro i
    induction i with
    | zero =>
      intro _
      rw [stepsL_succ b (p := 74 * a) (x := 0) rfl rfl]
      show b.set (74 * a) 0 = _
      rw [set_one 0 (by omega)]
      rfl
    | succ i ih =>
      intro hi
      rw [stepsL_succ b (hP i (by omega)) (hQ i (by omega)), ih (by omega)]
      have hx : (0 :: (slotL T).take i).length = i + 1 := by simp; omega
      have := set_paste (b := b) (X := 0 :: (slotL T).take i) (a := 74 * a) (x := (slotL T)[i]'(by omega)) (by rw [hx]; omega)
      rw [hx] at this
      rw [show 74 * a + 1 + i = 74 * a + (i + 1) by omega, this, List.cons_append, List.take_add_one, List.getElem?_eq_getElem (by omega)]
      rfl
  intro i hi
  rcases Nat.eq_zero_or_pos i with rfl | hpos
  · rfl
  · obtain ⟨j, rfl⟩ : ∃ j, i = j + 1 := ⟨i - 1, by omega⟩
    by_cases h75 : j + 1 = 75
    · obtain rfl : j = 74 := by omega
      have hp : (placesL (74 * a) 73 ++ [74 * a])[74]? = some (74 * a) := by
        rw [List.getElem?_append_right (by rw [placesL_length]; omega), placesL_length]; rfl
      have hq : (0 :: slotL T ++ [165])[74]? = some 165 := by
        rw [List.getElem?_append_right (by simp; omega)]
        simp [hs]
      rw [stepsL_succ b hp hq, key 73 (by omega), List.take_of_length_le (by omega), set_head (by omega), cut75]
    · rw [key j (by omega)]
      unfold cutL
      rw [if_neg (by omega), if_pos (by omega)]
      rfl
end Go.Proofs.YtocbaapnajdcfaaDoor
