/- What the program's commit and boot do, in plain words. -/
import Derived.Test.YtocbaapnajdcfaaDoorPn
namespace Go.Proofs.YtocbaapnajdcfaaDoor
open Go.RowKit
set_option linter.unusedVariables false
set_option linter.unusedSimpArgs false

/-- Writes one behind the other, until one fails. -/
def writesP (s : St) (base : Int) : List (Int × List UInt8) → Int × St
  | [] => (0, s)
  | (o, l) :: t => if (s.write (base + o) l).1 = 0 then writesP (s.write (base + o) l).2 base t else s.write (base + o) l
def threeL (r : Rec) : List (Int × List UInt8) := [(0, [0]), (1, slotL r), (0, [165])]
/-- What commit does: the record and the error, and the store. -/
def commitP (s : St) (r : Rec) : (Rec × Int) × St :=
  if (newestP s.b).2.1.seq = 4294967295 then ((Rec.zero, 13), s)
  else if s.b.length < 148 then ((Rec.zero, 1), s)
  else
    let r' : Rec := { r with seq := (newestP s.b).2.1.seq + 1 }
    let base : Int := (if (newestP s.b).2.2 = true then 1 - (newestP s.b).1 else (newestP s.b).1) * 74
    let x := writesP s base (threeL r')
    (if x.1 = 0 then (r', 0) else (Rec.zero, x.1), x.2)

theorem writesP_cons (s : St) (base o : Int) (l : List UInt8) (t : List (Int × List UInt8)) : writesP s base ((o, l) :: t) = if (s.write (base + o) l).1 = 0 then writesP (s.write (base + o) l).2 base t else s.write (base + o) l := rfl
theorem newestP_ok (b : List UInt8) : (newestP b).2.1.ok := by
  have h : ∀ l, wholeP l = true → (recOf l).ok := fun l hl => recOf_ok (by
    unfold wholeP at hl
    simp only [Bool.and_eq_true, decide_eq_true_eq] at hl
    exact hl.1.2)
  unfold newestP
  split
  · exact zero_ok
  · split
    · rename_i hc
      exact h _ hc.1
    · split
      · exact h _ (by assumption)
      · exact zero_ok
theorem newestP_at (b : List UInt8) : (newestP b).1 = 0 ∨ (newestP b).1 = 1 := by
  unfold newestP
  split
  · exact .inl rfl
  · split
    · exact .inr rfl
    · split
      · exact .inl rfl
      · exact .inl rfl

def CommitP (s : St) (inc : Nat) (data : List UInt8) : Int × St :=
  if 64 < data.length then (2, s) else ((commitP s ⟨0, inc, data⟩).1.2, (commitP s ⟨0, inc, data⟩).2)
def BootP (s : St) : (Rec × Int) × St :=
  if (newestP s.b).2.1.inc = 65535 then ((Rec.zero, 13), s) else commitP s { (newestP s.b).2.1 with inc := (newestP s.b).2.1.inc + 1 }

end Go.Proofs.YtocbaapnajdcfaaDoor
