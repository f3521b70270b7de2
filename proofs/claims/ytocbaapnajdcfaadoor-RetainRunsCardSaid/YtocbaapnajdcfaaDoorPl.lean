/- Plain law of layer 7: which slot is whole, what a commit leaves. -/
import Derived.Test.YtocbaapnajdcfaaDoorPd
namespace Go.Proofs.YtocbaapnajdcfaaDoor
open Go.RowKit
set_option linter.unusedVariables false
set_option linter.unusedSimpArgs false

theorem numB_beL (n : Nat) : ∀ k, numB (beL n k) = n % 256 ^ k := by
  have key : ∀ (k a : Nat), (beL n k).foldl (fun a c => a * 256 + c.toNat) a = a * 256 ^ k + n % 256 ^ k := by
    intro k
    induction k with
    | zero => intro a; simp [beL, Nat.mod_one]
    | succ k ih =>
      intro a
      simp only [beL, List.foldl_cons]
      rw [ih]
      have h1 : (UInt8.ofNat (n / 256 ^ k % 256)).toNat = n / 256 ^ k % 256 := by simp
      rw [h1, Nat.add_mul, Nat.pow_succ, Nat.mul_assoc, Nat.mul_comm 256 (256 ^ k), Nat.mod_mul, Nat.add_assoc]
      congr 1
      rw [Nat.mul_comm (n / 256 ^ k % 256) (256 ^ k), Nat.add_comm]
  intro k
  have := key k 0
  simpa [numB] using this

theorem trim_zeros (n : Nat) : Lib.trimB (List.replicate n 0) 0 = [] := by
  have h : ∀ n : Nat, (List.replicate n (0 : UInt8)).dropWhile (· == 0) = [] := by
    intro n
    induction n with
    | zero => rfl
    | succ n ih => simp [List.replicate_succ, ih]
  simp [Lib.trimB, Lib.trimRightB, Lib.trimLeftB, h]

theorem headL_cut (r : Rec) (t : List UInt8) : (headL r ++ t).take 4 = beL r.seq 4 ∧ ((headL r ++ t).drop 4).take 2 = beL r.inc 2 ∧ ((headL r ++ t).drop 6).take 1 = beL r.data.length 1 ∧ (headL r ++ t).drop 7 = r.data ++ t := by
  have l1 : (beL r.seq 4).length = 4 := beL_length _ _
  have l2 : (beL r.inc 2).length = 2 := beL_length _ _
  have l3 : (beL r.data.length 1).length = 1 := beL_length _ _
  unfold headL
  generalize beL r.seq 4 = A at *
  generalize beL r.inc 2 = B at *
  generalize beL r.data.length 1 = C at *
  match A, l1 with
  | [a, b, c, d], _ =>
    match B, l2 with
    | [e, f], _ =>
      match C, l3 with
      | [g], _ => exact ⟨rfl, rfl, rfl, rfl⟩

theorem sealL_sum (l : List UInt8) : Crc.sum (Crc.sealL l) = 0 := by
  unfold Crc.sealL
  have h := Crc.sum_lt l
  rw [Crc.sum_two]
  constructor
  · simp; omega
  · simp

theorem slotL_eq (r : Rec) : slotL r = headL r ++ (List.replicate (64 - r.data.length) 0 ++ [UInt8.ofNat (Crc.sum (baseL r) / 256), UInt8.ofNat (Crc.sum (baseL r) % 256)]) := by
  simp [slotL, Crc.sealL, baseL]

theorem recOf_slot {r : Rec} (ok : r.ok) : recOf (165 :: slotL r) = r ∧ numB (((165 :: slotL r).drop 7).take 1) = r.data.length := by
  obtain ⟨h1, h2, h3, h4⟩ := headL_cut r (List.replicate (64 - r.data.length) 0 ++ [UInt8.ofNat (Crc.sum (baseL r) / 256), UInt8.ofNat (Crc.sum (baseL r) % 256)])
  rw [← slotL_eq] at h1 h2 h3 h4
  have hd := ok.data
  have n3 : numB (((165 :: slotL r).drop 7).take 1) = r.data.length := by
    show numB ((slotL r |>.drop 6).take 1) = _
    rw [h3, numB_beL]
    omega
  refine ⟨?_, n3⟩
  unfold recOf
  rw [n3]
  have e1 : numB (((165 :: slotL r).drop 1).take 4) = r.seq := by
    show numB ((slotL r).take 4) = _
    rw [h1, numB_beL]
    exact Nat.mod_eq_of_lt ok.seq
  have e2 : numB (((165 :: slotL r).drop 5).take 2) = r.inc := by
    show numB (((slotL r).drop 4).take 2) = _
    rw [h2, numB_beL]
    exact Nat.mod_eq_of_lt ok.inc
  have e3 : ((165 :: slotL r).drop 8).take r.data.length = r.data := by
    show ((slotL r).drop 7).take r.data.length = _
    rw [h4]
    simp
  rw [e1, e2, e3]

theorem wholeP_slot {r : Rec} (ok : r.ok) : wholeP (165 :: slotL r) = true := by
  have hn := (recOf_slot ok).2
  have hd := ok.data
  obtain ⟨h1, h2, h3, h4⟩ := headL_cut r (List.replicate (64 - r.data.length) 0 ++ [UInt8.ofNat (Crc.sum (baseL r) / 256), UInt8.ofNat (Crc.sum (baseL r) % 256)])
  rw [← slotL_eq] at h4
  unfold wholeP
  rw [hn]
  have a1 : openOk ((165 :: slotL r).drop 1) = true := by
    show openOk (slotL r) = true
    simp [openOk, slotL_length ok]
    exact sealL_sum _
  have a2 : numB ((165 :: slotL r).take 1) = 165 := by
    show numB [165] = 165
    decide
  have a3 : ((165 :: slotL r).drop (8 + r.data.length)).take (64 - r.data.length) = List.replicate (64 - r.data.length) 0 := by
    have : (165 :: slotL r).drop (8 + r.data.length) = ((slotL r).drop 7).drop r.data.length := by
      rw [List.drop_drop, show 8 + r.data.length = (7 + r.data.length) + 1 by omega]
      rfl
    rw [this, h4]
    simp
  rw [a1, a2, a3, trim_zeros]
  simp [hd]

/-- A slot whose mark isn't there isn't whole. -/
theorem wholeP_mark {l : List UInt8} (h : numB (l.take 1) ≠ 165) : wholeP l = false := by
  unfold wholeP
  simp [h]
end Go.Proofs.YtocbaapnajdcfaaDoor
