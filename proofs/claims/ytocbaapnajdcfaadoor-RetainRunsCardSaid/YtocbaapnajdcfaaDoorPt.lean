/- Plain law of layer 7: the store behind a commit. -/
import Derived.Test.YtocbaapnajdcfaaDoorPq
namespace Go.Proofs.YtocbaapnajdcfaaDoor
open Go.RowKit
set_option linter.unusedVariables false
set_option linter.unusedSimpArgs false

theorem write_un {b : List UInt8} {n lf : Int} (a : Int) (l : List UInt8) (h : There b.length a l.length) : (St.mk b false false lf n).write a l = (0, St.mk (pasteL b a.toNat l) false false lf (n + l.length)) := by
  simp [St.write, h, St.paste, pasteL]

/-- The bytes when m of a commit's 75 are written into slot a. -/
def cutL (b : List UInt8) (a : Nat) (T : Rec) (m : Nat) : List UInt8 :=
  if m = 0 then b else if m < 75 then pasteL b (74 * a) (0 :: (slotL T).take (m - 1)) else pasteL b (74 * a) (165 :: slotL T)
theorem cutL_length {b : List UInt8} {a : Nat} {T : Rec} (ok : T.ok) (m : Nat) (hl : 74 * a + 74 ≤ b.length) : (cutL b a T m).length = b.length := by
  have := slotL_length ok
  unfold cutL
  split
  · rfl
  · split
    · rw [pasteL_length]; simp; omega
    · rw [pasteL_length]; simp; omega

theorem cut75 (b : List UInt8) (a : Nat) (T : Rec) : cutL b a T 75 = pasteL b (74 * a) (165 :: slotL T) := by
  unfold cutL
  rw [if_neg (by decide), if_neg (by decide)]
theorem cut74 (b : List UInt8) (a : Nat) (T : Rec) (h : (slotL T).length = 73) : cutL b a T 74 = pasteL b (74 * a) (0 :: slotL T) := by
  unfold cutL
  rw [if_neg (by decide), if_pos (by decide), List.take_of_length_le (by omega)]

theorem writes_un {b : List UInt8} {a : Nat} {T : Rec} (ok : T.ok) (hl : 74 * a + 74 ≤ b.length) (n lf : Int) :
    writesP ⟨b, false, false, lf, n⟩ ((a : Int) * 74) (threeL T) = (0, ⟨cutL b a T 75, false, false, lf, n + 75⟩) := by
  have hs := slotL_length ok
  have t1 : ((a : Int) * 74 + 0).toNat = 74 * a := by omega
  have t2 : ((a : Int) * 74 + 1).toNat = 74 * a + ([0] : List UInt8).length := by simp; omega
  have l1 : (pasteL b (74 * a) [0]).length = b.length := pasteL_length (by simp; omega)
  have w1 := write_un (b := b) (n := n) (lf := lf) ((a : Int) * 74 + 0) [0] ⟨by omega, by omega, by simp, by simp; omega⟩
  rw [t1] at w1
  have w2 := write_un (b := pasteL b (74 * a) [0]) (n := n + ([0] : List UInt8).length) (lf := lf) ((a : Int) * 74 + 1) (slotL T) ⟨by omega, by omega, by omega, by omega⟩
  rw [t2, paste_more (by simp; omega), List.singleton_append] at w2
  have l2 : (pasteL b (74 * a) (0 :: slotL T)).length = b.length := pasteL_length (by simp; omega)
  have w3 := write_un (b := pasteL b (74 * a) (0 :: slotL T)) (n := n + ([0] : List UInt8).length + (slotL T).length) (lf := lf) ((a : Int) * 74 + 0) [165] ⟨by omega, by omega, by simp, by simp; omega⟩
  rw [t1, paste_head (by omega)] at w3
  unfold threeL
  rw [writesP_cons, w1, if_pos rfl, writesP_cons]
  show (if ((St.mk (pasteL b (74 * a) [0]) false false lf (n + ([0] : List UInt8).length)).write _ _).1 = 0 then _ else _) = _
  rw [w2, if_pos rfl, writesP_cons]
  show (if ((St.mk (pasteL b (74 * a) (0 :: slotL T)) false false lf (n + ([0] : List UInt8).length + (slotL T).length)).write _ _).1 = 0 then _ else _) = _
  rw [w3, if_pos rfl, cut75]
  simp only [writesP, Prod.mk.injEq, St.mk.injEq, true_and, and_true, List.length_singleton, hs]
  omega

theorem writes_armed {b : List UInt8} {a : Nat} {T : Rec} (ok : T.ok) (hl : 74 * a + 74 ≤ b.length) (n : Int) (L : Nat) (h75 : 75 ≤ L) :
    writesP ⟨b, false, true, L, n⟩ ((a : Int) * 74) (threeL T) = (0, ⟨cutL b a T 75, false, true, (L : Int) - 75, n + 75⟩) := by
  have hs := slotL_length ok
  have t1 : ((a : Int) * 74 + 0).toNat = 74 * a := by omega
  have t2 : ((a : Int) * 74 + 1).toNat = 74 * a + ([0] : List UInt8).length := by simp; omega
  have l1 : (pasteL b (74 * a) [0]).length = b.length := pasteL_length (by simp; omega)
  have w1 := write_full (b := b) (n := n) (left := (L : Int)) ((a : Int) * 74 + 0) [0] ⟨by omega, by omega, by simp, by simp; omega⟩ (by simp; omega)
  rw [t1] at w1
  have w2 := write_full (b := pasteL b (74 * a) [0]) (n := n + ([0] : List UInt8).length) (left := (L : Int) - ([0] : List UInt8).length) ((a : Int) * 74 + 1) (slotL T) ⟨by omega, by omega, by omega, by omega⟩ (by simp [hs]; omega)
  rw [t2, paste_more (by simp; omega), List.singleton_append] at w2
  have l2 : (pasteL b (74 * a) (0 :: slotL T)).length = b.length := pasteL_length (by simp; omega)
  have w3 := write_full (b := pasteL b (74 * a) (0 :: slotL T)) (n := n + ([0] : List UInt8).length + (slotL T).length) (left := (L : Int) - ([0] : List UInt8).length - (slotL T).length) ((a : Int) * 74 + 0) [165] ⟨by omega, by omega, by simp, by simp; omega⟩ (by simp [hs]; omega)
  rw [t1, paste_head (by omega)] at w3
  unfold threeL
  rw [writesP_cons, w1, if_pos rfl, writesP_cons]
  show (if ((St.mk (pasteL b (74 * a) [0]) false true ((L : Int) - ([0] : List UInt8).length) (n + ([0] : List UInt8).length)).write _ _).1 = 0 then _ else _) = _
  rw [w2, if_pos rfl, writesP_cons]
  show (if ((St.mk (pasteL b (74 * a) (0 :: slotL T)) false true ((L : Int) - ([0] : List UInt8).length - (slotL T).length) (n + ([0] : List UInt8).length + (slotL T).length)).write _ _).1 = 0 then _ else _) = _
  rw [w3, if_pos rfl, cut75]
  simp only [writesP, Prod.mk.injEq, St.mk.injEq, true_and, and_true, List.length_singleton, hs]
  omega

theorem writes_torn {b : List UInt8} {a : Nat} {T : Rec} (ok : T.ok) (hl : 74 * a + 74 ≤ b.length) (n : Int) (L : Nat) (h75 : L < 75) :
    writesP ⟨b, false, true, L, n⟩ ((a : Int) * 74) (threeL T) = (12, ⟨cutL b a T L, true, false, 0, n + L⟩) := by
  have hs := slotL_length ok
  have t1 : ((a : Int) * 74 + 0).toNat = 74 * a := by omega
  have t2 : ((a : Int) * 74 + 1).toNat = 74 * a + ([0] : List UInt8).length := by simp; omega
  have l1 : (pasteL b (74 * a) [0]).length = b.length := pasteL_length (by simp; omega)
  by_cases h0 : L = 0
  · subst h0
    have w1 := write_half (b := b) (n := n) (left := ((0 : Nat) : Int)) ((a : Int) * 74 + 0) [0] ⟨by omega, by omega, by simp, by simp; omega⟩ (by simp)
    unfold threeL
    rw [writesP_cons, w1, if_neg (show ¬ (12 : Int) = 0 by decide)]
    simp [cutL, pasteL]
  · have w1 := write_full (b := b) (n := n) (left := (L : Int)) ((a : Int) * 74 + 0) [0] ⟨by omega, by omega, by simp, by simp; omega⟩ (by simp; omega)
    rw [t1] at w1
    by_cases h74 : L < 74
    · have w2 := write_half (b := pasteL b (74 * a) [0]) (n := n + ([0] : List UInt8).length) (left := (L : Int) - ([0] : List UInt8).length) ((a : Int) * 74 + 1) (slotL T) ⟨by omega, by omega, by omega, by omega⟩ (by simp [hs]; omega)
      have hk : ((L : Int) - ([0] : List UInt8).length).toNat = L - 1 := by simp
      have hk2 : ((slotL T).take (L - 1)).length = L - 1 := by rw [List.length_take]; omega
      rw [t2, hk, paste_more (by simp; omega)] at w2
      unfold threeL
      rw [writesP_cons, w1, if_pos rfl, writesP_cons]
      show (if ((St.mk (pasteL b (74 * a) [0]) false true ((L : Int) - ([0] : List UInt8).length) (n + ([0] : List UInt8).length)).write _ _).1 = 0 then _ else _) = _
      rw [w2, if_neg (show ¬ (12 : Int) = 0 by decide)]
      simp [cutL, h0, h75]
      omega
    · obtain rfl : L = 74 := by omega
      have w2 := write_full (b := pasteL b (74 * a) [0]) (n := n + ([0] : List UInt8).length) (left := ((74 : Nat) : Int) - ([0] : List UInt8).length) ((a : Int) * 74 + 1) (slotL T) ⟨by omega, by omega, by omega, by omega⟩ (by simp [hs])
      rw [t2, paste_more (by simp; omega), List.singleton_append] at w2
      have l2 : (pasteL b (74 * a) (0 :: slotL T)).length = b.length := pasteL_length (by simp; omega)
      have w3 := write_half (b := pasteL b (74 * a) (0 :: slotL T)) (n := n + ([0] : List UInt8).length + (slotL T).length) (left := ((74 : Nat) : Int) - ([0] : List UInt8).length - (slotL T).length) ((a : Int) * 74 + 0) [165] ⟨by omega, by omega, by simp, by simp; omega⟩ (by simp [hs])
      unfold threeL
      rw [writesP_cons, w1, if_pos rfl, writesP_cons]
      show (if ((St.mk (pasteL b (74 * a) [0]) false true (((74 : Nat) : Int) - ([0] : List UInt8).length) (n + ([0] : List UInt8).length)).write _ _).1 = 0 then _ else _) = _
      rw [w2, if_pos rfl, writesP_cons]
      show (if ((St.mk (pasteL b (74 * a) (0 :: slotL T)) false true (((74 : Nat) : Int) - ([0] : List UInt8).length - (slotL T).length) (n + ([0] : List UInt8).length + (slotL T).length)).write _ _).1 = 0 then _ else _) = _
      rw [if_neg (by rw [w3]; exact (show ¬ (12 : Int) = 0 by decide))]
      have e2 : ((([165] : List UInt8)).take (((74 : Nat) : Int) - ([0] : List UInt8).length - (slotL T).length).toNat) = [] := by simp [hs]
      have w3' := w3
      rw [e2, pasteL_none] at w3'
      refine w3'.trans ?_
      rw [cut74 _ _ _ hs]
      simp only [Prod.mk.injEq, St.mk.injEq, true_and, and_true, List.length_singleton, hs]
      omega
theorem writes_dark {b : List UInt8} {a : Nat} {T : Rec} (hl : 74 * a + 74 ≤ b.length) (n lf : Int) (ar : Bool) :
    writesP ⟨b, true, ar, lf, n⟩ ((a : Int) * 74) (threeL T) = (12, ⟨b, true, ar, lf, n⟩) := by
  have w1 := write_off (b := b) (n := n) (left := lf) (ar := ar) ((a : Int) * 74 + 0) [0] ⟨by omega, by omega, by simp, by simp; omega⟩
  unfold threeL
  rw [writesP_cons, w1, if_neg (show ¬ (12 : Int) = 0 by decide)]

/-- What the newest is behind m bytes of a commit. -/
theorem new_cut {b : List UInt8} (hl : 148 ≤ b.length) {T : Rec} (ok : T.ok) (m : Nat) (hm : m < 75) : newestP (cutL b (nextA (newestP b)) T m) = newestP b := by
  unfold cutL
  split
  · rfl
  · exact new_torn hl (by rw [List.length_take, slotL_length ok]; omega)
theorem new_all {b : List UInt8} (hl : 148 ≤ b.length) {T : Rec} (ok : T.ok) (hs : (newestP b).2.2 = true → (newestP b).2.1.seq < T.seq) :
    newestP (cutL b (nextA (newestP b)) T 75) = (((nextA (newestP b) : Nat) : Int), T, true) := by
  unfold cutL
  rw [if_neg (by decide), if_neg (by decide)]
  exact new_full hl ok hs
theorem nextA_le (b : List UInt8) : nextA (newestP b) ≤ 1 := by
  have h := newestP_at b
  unfold nextA
  split
  · split <;> omega
  · rcases h with h | h <;> rw [h] <;> simp

/-- The record that a commit commits. -/
def recN (b : List UInt8) (r : Rec) : Rec := { r with seq := (newestP b).2.1.seq + 1 }
theorem recN_ok {b : List UInt8} {r : Rec} (ok : r.ok) (hs : (newestP b).2.1.seq ≠ 4294967295) : (recN b r).ok :=
  ⟨by have := (newestP_ok b).seq; show _ + 1 < _; omega, ok.inc, ok.data⟩

theorem commitP_eq {s : St} {r : Rec} (hs : (newestP s.b).2.1.seq ≠ 4294967295) (hl : 148 ≤ s.b.length) :
    commitP s r = ((if (writesP s ((nextA (newestP s.b) : Nat) * 74) (threeL (recN s.b r))).1 = 0 then (recN s.b r, 0) else (Rec.zero, (writesP s ((nextA (newestP s.b) : Nat) * 74) (threeL (recN s.b r))).1), (writesP s ((nextA (newestP s.b) : Nat) * 74) (threeL (recN s.b r))).2)) := by
  unfold commitP
  rw [if_neg hs, if_neg (by omega), nextA_eq]
  rfl

theorem commitP_un {b : List UInt8} {n lf : Int} {r : Rec} (ok : r.ok) (hs : (newestP b).2.1.seq ≠ 4294967295) (hl : 148 ≤ b.length) :
    commitP ⟨b, false, false, lf, n⟩ r = ((recN b r, 0), ⟨cutL b (nextA (newestP b)) (recN b r) 75, false, false, lf, n + 75⟩) := by
  have := nextA_le b
  rw [commitP_eq hs hl, writes_un (recN_ok ok hs) (by show 74 * nextA (newestP b) + 74 ≤ b.length; omega)]
  rfl
theorem commitP_armed {b : List UInt8} {n : Int} {L : Nat} {r : Rec} (ok : r.ok) (hs : (newestP b).2.1.seq ≠ 4294967295) (hl : 148 ≤ b.length) (h75 : 75 ≤ L) :
    commitP ⟨b, false, true, L, n⟩ r = ((recN b r, 0), ⟨cutL b (nextA (newestP b)) (recN b r) 75, false, true, (L : Int) - 75, n + 75⟩) := by
  have := nextA_le b
  rw [commitP_eq hs hl, writes_armed (recN_ok ok hs) (by show 74 * nextA (newestP b) + 74 ≤ b.length; omega) _ _ h75]
  rfl
theorem commitP_torn {b : List UInt8} {n : Int} {L : Nat} {r : Rec} (ok : r.ok) (hs : (newestP b).2.1.seq ≠ 4294967295) (hl : 148 ≤ b.length) (h75 : L < 75) :
    commitP ⟨b, false, true, L, n⟩ r = ((Rec.zero, 12), ⟨cutL b (nextA (newestP b)) (recN b r) L, true, false, 0, n + L⟩) := by
  have := nextA_le b
  rw [commitP_eq hs hl, writes_torn (recN_ok ok hs) (by show 74 * nextA (newestP b) + 74 ≤ b.length; omega) _ _ h75]
  rfl
theorem commitP_max {s : St} {r : Rec} (hs : (newestP s.b).2.1.seq = 4294967295) : commitP s r = ((Rec.zero, 13), s) := by
  unfold commitP
  rw [if_pos hs]
end Go.Proofs.YtocbaapnajdcfaaDoor
