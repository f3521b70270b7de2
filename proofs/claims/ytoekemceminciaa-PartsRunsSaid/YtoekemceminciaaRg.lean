/- The reference's Glue: Number, Count, Put's ways out ahead of the version. -/
import Derived.Test.YtoekemceminciaaQk
namespace Go.Proofs.Ytoekemceminciaa
open Go.RowKit
set_option linter.unusedVariables false
set_option linter.unusedSimpArgs false

/-- A version as one number. -/
def num (a b : Int) : Int := a * 4294967296 + b
theorem num_eq (a b : Int) : num a b = a * 4294967296 + b := rfl
attribute [irreducible] num

set_option maxHeartbeats 400000 in
theorem number_any (a b : Int) (ha : 0 ≤ a ∧ a ≤ 65535) (hb : 0 ≤ b ∧ b ≤ 4294967295) (w : World) :
    Calls Try.prog 45 #[.agg #[.int .u16 a, .int .u32 b]] w fun e w' => e = .returned (.int .u64 (num a b)) ∧ Below w.heap.size w w' := by
  obtain ⟨a0, a1⟩ := ha
  obtain ⟨b0, b1⟩ := hb
  have hbw : Below w.heap.size w (w.alloc (.cells #[.int .u16 a, .int .u32 b] 50)) := (Below.refl _ _).alloc (Nat.le_refl _) _
  go_enter Try.func45, Try.ntmps45
  go_wp2
  go_ret
  exact ⟨by rw [num_eq]; rfl, hbw⟩

/-- The reference's glue: its block; the row of what came where it is at a version. -/
structure Rg where
  size : Nat
  is : Bool
  vi : Int
  vs : Int
  base : Option Addr
  cap : Nat
  came : List ByteArray

structure RAt (w : World) (r : Nat) (R : Rg) : Prop where
  blk : w.heap[r]? = some (.cells #[.int .i64 R.size, .bool R.is, .int .u16 R.vi, .int .u32 R.vs, .slice R.base R.came.length R.cap] 70 (0, 0))
  cap : R.came.length ≤ R.cap
  bl : ∀ a, R.base = some a → a.block < w.heap.size
  row : R.came ≠ [] → ∃ h cur, R.base = some ⟨h, 0, none⟩ ∧ h ≠ r ∧ w.heap[h]? = some (.cells cur 9 (0, 0)) ∧ cur.toList.take R.came.length = R.came.map Value.string

theorem RAt.keep {w w' : World} {r : Nat} {R : Rg} (k : RAt w r R) (b : Below w.heap.size w w') : RAt w' r R :=
  ⟨(b.block r (Array.getElem?_eq_some_iff.1 k.blk).1).trans k.blk, k.cap, fun a h => Nat.lt_of_lt_of_le (k.bl a h) b.size, fun h => by
    obtain ⟨h', cur, e, hne, hb, ht⟩ := k.row h
    exact ⟨h', cur, e, hne, (b.block h' (Array.getElem?_eq_some_iff.1 hb).1).trans hb, ht⟩⟩
theorem RAt.cell {w : World} {r : Nat} {R : Rg} (k : RAt w r R) (i : Nat) (s : ByteArray) (hi : R.came[i]? = some s) : ∃ h, R.base = some ⟨h, 0, none⟩ ∧ h ≠ r ∧ h < w.heap.size ∧ w.cell? ⟨h, i, none⟩ = some (.string s) ∧ w.frozen? ⟨h, i, none⟩ = false := by
  obtain ⟨h, cur, e, hne, hb, ht⟩ := k.row (by intro e; rw [e] at hi; simp at hi)
  refine ⟨h, e, hne, (Array.getElem?_eq_some_iff.1 hb).1, ?_, blk_frozen hb i⟩
  rw [blk_cell hb i, ← Array.getElem?_toList]
  have hlt : i < R.came.length := (List.getElem?_eq_some_iff.1 hi).1
  have h2 : (cur.toList.take R.came.length)[i]? = some (.string s) := by rw [ht, List.getElem?_map, hi]; rfl
  rw [List.getElem?_take, if_pos hlt] at h2
  exact h2

/-- How many came. -/
def cnt (l : List ByteArray) : Nat := (l.filter fun s => !s.data.toList.isEmpty).length

attribute [local go_sem] ofL_toList
set_option maxHeartbeats 1000000 in
set_option maxRecDepth 20000 in
theorem count_any {w : World} {r : Nat} {R : Rg} (k : RAt w r R) (hl : R.came.length ≤ 1000) :
    Calls Try.prog 31 #[.pointer (some ⟨r, 0, none⟩)] w fun e w' => e = .returned (.int .i64 (cnt R.came)) ∧ Below w.heap.size w w' := by
  have c4 : w.cell? ⟨r, 4, none⟩ = some (.slice R.base R.came.length R.cap) := blk_cell k.blk 4
  have KK := hide k
  clear k
  go_enter Try.func31, Try.ntmps31
  go_wp2_with fail
  go_loopw [3, 4] (fun x i wr => ∃ j : Nat, i = .int .i64 j ∧ j ≤ R.came.length ∧ x = .int .i64 (cnt (R.came.take j)) ∧ Below w.heap.size w wr) (fun _ i _ => R.came.length - (intOf i).toNat)
  case atStart => exact ⟨0, rfl, Nat.zero_le _, rfl, Below.refl _ _⟩
  case round =>
    obtain ⟨j, rfl, hj, rfl, hbr⟩ := hrel
    have kr := KK.out.keep hbr
    have c4 : wr.cell? ⟨r, 4, none⟩ = some (.slice R.base R.came.length R.cap) := blk_cell kr.blk 4
    obtain ⟨n, hn⟩ : ∃ n, cnt (R.came.take j) = n := ⟨_, rfl⟩
    have hnj : n ≤ j := by
      rw [← hn]
      unfold cnt
      refine Nat.le_trans (List.length_filter_le _ _) ?_
      rw [List.length_take]
      omega
    rw [hn]
    have HN := hide hn
    have HBR := hide hbr
    clear hn hbr
    by_cases hlt : j < R.came.length
    · obtain ⟨s, hs⟩ : ∃ s, R.came[j]? = some s := ⟨_, List.getElem?_eq_getElem hlt⟩
      obtain ⟨h, hb, hne, hhl, hc, -⟩ := kr.cell j s hs
      rw [hb] at c4
      have hstep : cnt (R.came.take (j + 1)) = n + (if s.data.toList.isEmpty then 0 else 1) := by
        rw [List.take_add_one, hs]
        unfold cnt
        rw [List.filter_append, List.length_append]
        have := HN.out
        unfold cnt at this
        rw [this]
        cases hx : s.data.toList.isEmpty
        · rw [show (some s).toList = [s] from rfl, List.filter_cons]
          simp only [hx, Bool.not_false, if_true, Bool.false_eq_true, if_false]
          rfl
        · rw [show (some s).toList = [s] from rfl, List.filter_cons]
          simp only [hx, Bool.not_true, if_true, Bool.false_eq_true, if_false]
          rfl
      have HSTEP := hide hstep
      clear hstep hs hb kr
      obtain ⟨l, rfl⟩ : ∃ l, s = ofL l := ⟨s.data.toList, (ofL_of s).symm⟩
      cases hx : l.isEmpty
      · go_wp2_with fail
        go_roundw
        case rel => exact ⟨j + 1, by go_num, by omega, by rw [HSTEP.out, ofL_data, hx]; simp, HBR.out⟩
        case measure => simp [intOf]; omega
      · go_wp2_with fail
        go_roundw
        case rel => exact ⟨j + 1, by go_num, by omega, by rw [HSTEP.out, ofL_data, hx]; simp, HBR.out⟩
        case measure => simp [intOf]; omega
    · have e : n = cnt R.came := by rw [← HN.out, List.take_of_length_le (by omega)]
      have hbr := HBR.out
      go_wp2_with fail
      go_ret
      exact ⟨congrArg (fun z : Nat => Ending.returned (.int .i64 (z : Int))) e, hbr⟩
end Go.Proofs.Ytoekemceminciaa
