/- The walks of package blocks (Parts, Piece, Cut), of cmp and of the versions' order. -/
import Derived.Test.YtocbaapnajdcfaaDoorRows
import Derived.Test.YtocbaapnajdcfaaDoorBase
namespace Go.Proofs.YtocbaapnajdcfaaDoor
open Go.RowKit
set_option linter.unusedVariables false
set_option linter.unusedSimpArgs false

theorem ret_int {k : IntKind} {a b : Int} (h : a = b) : Ending.returned (.int k a) = .returned (.int k b) := by rw [h]

/-- How many parts a value of a size has. -/
def nParts (n : Int) : Int := if 1 ≤ n ∧ n ≤ 64 then (n + 15) / 16 else 0
theorem nParts_yes {n : Int} (h1 : 1 ≤ n) (h2 : n ≤ 64) : nParts n = (n + 15) / 16 := if_pos ⟨h1, h2⟩
theorem nParts_no {n : Int} (h : ¬ (1 ≤ n ∧ n ≤ 64)) : nParts n = 0 := if_neg h
theorem nParts_le (n : Int) : 0 ≤ nParts n ∧ nParts n ≤ 4 := by unfold nParts; split <;> omega

/-- A part's place and length. -/
def pAt (n p : Int) : Int := if 0 ≤ p ∧ p < nParts n then p * 16 else 0
def pLen (n p : Int) : Int := if 0 ≤ p ∧ p < nParts n then min 16 (n - p * 16) else 0

section
attribute [local go_sem high] min_i
end

/-- A part's bytes. -/
def chunk (l : List UInt8) (p : Nat) : List UInt8 := (l.drop (16 * p)).take 16

/-- -1, 0 or 1. -/
def cmpI (a b : Int) : Int := if a < b then -1 else if b < a then 1 else 0

/-- Of two numbers, the first that is not 0. -/
def orI (a b : Int) : Int := if a = 0 then b else a

/-- The order of two versions. -/
def cmpV (a b c d : Int) : Int := orI (cmpI a c) (cmpI b d)

theorem cmpV_pos {a b c d : Int} : 0 < cmpV a b c d ↔ c < a ∨ (a = c ∧ d < b) := by
  unfold cmpV orI cmpI
  (repeat' split) <;> constructor <;> intro h <;> omega
theorem cmpV_neg {a b c d : Int} : cmpV a b c d < 0 ↔ a < c ∨ (a = c ∧ b < d) := by
  unfold cmpV orI cmpI
  (repeat' split) <;> constructor <;> intro h <;> omega
end Go.Proofs.YtocbaapnajdcfaaDoor
