/- The walks of package blocks (Parts, Piece, Cut), of cmp and of the versions' order. -/
import Derived.Test.YtjmdkhjfjlodmaaDoorRows
import Derived.Test.YtjmdkhjfjlodmaaDoorBase
namespace Go.Proofs.YtjmdkhjfjlodmaaDoor
open Go.RowKit
set_option linter.unusedVariables false
set_option linter.unusedSimpArgs false

theorem ret_int {k : IntKind} {a b : Int} (h : a = b) : Ending.returned (.int k a) = .returned (.int k b) := by rw [h]

/-- How many parts a value of a size has. -/
def nParts (n : Int) : Int := if 1 ≤ n ∧ n ≤ 64 then (n + 15) / 16 else 0
theorem nParts_yes {n : Int} (h1 : 1 ≤ n) (h2 : n ≤ 64) : nParts n = (n + 15) / 16 := if_pos ⟨h1, h2⟩
theorem nParts_no {n : Int} (h : ¬ (1 ≤ n ∧ n ≤ 64)) : nParts n = 0 := if_neg h
theorem nParts_le (n : Int) : 0 ≤ nParts n ∧ nParts n ≤ 4 := by unfold nParts; split <;> omega

/-- A part's place and length. -/
def pAt (n p : Int) : Int := if 0 ≤ p ∧ p < nParts n then p * 16 else 0
def pLen (n p : Int) : Int := if 0 ≤ p ∧ p < nParts n then min 16 (n - p * 16) else 0

section
attribute [local go_sem high] min_i
end

/-- A part's bytes. -/
def chunk (l : List UInt8) (p : Nat) : List UInt8 := (l.drop (16 * p)).take 16

/-- -1, 0 or 1. -/
def cmpI (a b : Int) : Int := if a < b then -1 else if b < a then 1 else 0

set_option maxHeartbeats 400000 in
theorem nan16_any (a : Int) (w : World) : Calls Tryd.prog 28 #[.int .u16 a] w fun e w' => e = .returned (.bool false) ∧ w = w' := by
  go_enter Tryd.func28, Tryd.ntmps28
  go_wp2
  go_ret
  exact ⟨by simp, rfl⟩
set_option maxHeartbeats 400000 in
theorem c16_any (a b : Int) (w : World) : Calls Tryd.prog 22 #[.int .u16 a, .int .u16 b] w fun e w' => e = .returned (.int .i64 (cmpI a b)) ∧ w = w' := by
  unfold cmpI
  by_cases h1 : a < b
  · rw [if_pos h1]
    go_enter Tryd.func22, Tryd.ntmps22
    go_wp2_with (go_at_call 28; refine (nan16_any _ _).mono ?_; rintro e w' ⟨rfl, rfl⟩)
    go_ret
    exact ⟨rfl, rfl⟩
  · rw [if_neg h1]
    by_cases h2 : b < a
    · rw [if_pos h2]
      go_enter Tryd.func22, Tryd.ntmps22
      go_wp2_with (go_at_call 28; refine (nan16_any _ _).mono ?_; rintro e w' ⟨rfl, rfl⟩)
      go_ret
      exact ⟨rfl, rfl⟩
    · rw [if_neg h2]
      go_enter Tryd.func22, Tryd.ntmps22
      go_wp2_with (go_at_call 28; refine (nan16_any _ _).mono ?_; rintro e w' ⟨rfl, rfl⟩)
      go_ret
      exact ⟨rfl, rfl⟩
/-- Of two numbers, the first that is not 0. -/
def orI (a b : Int) : Int := if a = 0 then b else a

set_option maxHeartbeats 400000 in
theorem or_two (h : Nat) (a b : Int) (w : World) (hc0 : w.cell? ⟨h, 0, none⟩ = some (.int .i64 a)) (hc1 : w.cell? ⟨h, 1, none⟩ = some (.int .i64 b)) :
    Calls Tryd.prog 21 #[.slice (some ⟨h, 0, none⟩) 2 2] w fun e w' => e = .returned (.int .i64 (orI a b)) ∧ w = w' := by
  unfold orI
  by_cases ha : a = 0
  · subst ha
    rw [if_pos rfl]
    by_cases hb : b = 0
    · subst hb
      go_enter Tryd.func21, Tryd.ntmps21
      go_wp2
      go_rounds 3
      go_ret
      exact ⟨rfl, rfl⟩
    · have hb2 : (b != 0) = true := by simpa using hb
      go_enter Tryd.func21, Tryd.ntmps21
      go_wp2
      go_rounds 3
      go_ret
      exact ⟨rfl, rfl⟩
  · rw [if_neg ha]
    have ha2 : (a != 0) = true := by simpa using ha
    go_enter Tryd.func21, Tryd.ntmps21
    go_wp2
    go_rounds 3
    go_ret
    exact ⟨rfl, rfl⟩

/-- The order of two versions. -/
def cmpV (a b c d : Int) : Int := orI (cmpI a c) (cmpI b d)

theorem cmpV_pos {a b c d : Int} : 0 < cmpV a b c d ↔ c < a ∨ (a = c ∧ d < b) := by
  unfold cmpV orI cmpI
  (repeat' split) <;> constructor <;> intro h <;> omega
theorem cmpV_neg {a b c d : Int} : cmpV a b c d < 0 ↔ a < c ∨ (a = c ∧ b < d) := by
  unfold cmpV orI cmpI
  (repeat' split) <;> constructor <;> intro h <;> omega
end Go.Proofs.YtjmdkhjfjlodmaaDoor
