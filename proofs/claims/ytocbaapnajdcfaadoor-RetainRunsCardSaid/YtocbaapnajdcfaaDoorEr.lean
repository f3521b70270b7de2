/- '==' of a Record. -/
import Derived.Test.YtocbaapnajdcfaaDoorPn
import Derived.Laws.StructEq
import Derived.Deep.MidRow
namespace Go.Proofs.YtocbaapnajdcfaaDoor
open Go.RowKit
set_option linter.unusedVariables false
set_option linter.unusedSimpArgs false
section
variable {P : Program} {d : Nat} {xs ys : Array Value} {f : Field} {fs : List Field} {a b : Value} {r s : Bool} {w : World}
theorem eq_cons (hn : (f.name == "_") = false) (ha : (part f.type xs f.offset).run P w = .ok a w) (hb : (part f.type ys f.offset).run P w = .ok b w) (he : (Op.equalIn d f.type a b).run P w = .ok r w) (hr : (Op.eqFields d xs ys fs).run P w = .ok s w) : (Op.eqFields d xs ys (f :: fs)).run P w = .ok (r && s) w := by
  have hn' : f.name ≠ "_" := by simpa using hn
  unfold Op.eqFields
  simp only [if_pos hn', Sem.run_bind, ha, hb, he, Result.andThen_ok]
  cases r <;> simp [hr]
theorem eq_last (hn : (f.name == "_") = false) (ha : (part f.type xs f.offset).run P w = .ok a w) (hb : (part f.type ys f.offset).run P w = .ok b w) (he : (Op.equalIn d f.type a b).run P w = .ok r w) : (Op.eqFields d xs ys [f]).run P w = .ok r w := by
  have := eq_cons (s := true) (fs := []) hn ha hb he (by simp [Op.eqFields])
  rwa [Bool.and_true] at this
theorem eq_of {t : TypeId} {fs : Array Field} (hu : P.underlying t = some (.struct fs)) (hp : P.stoodInHeld t = false) (h : (Op.eqFields d xs ys fs.toList).run P w = .ok r w) : (Op.equalIn (d + 1) t (.agg xs) (.agg ys)).run P w = .ok r w := by
  have hf : P.fieldsOf t = fs := by simp [Program.fieldsOf, hu]
  rw [run_equalIn_struct (P := P) w d t xs ys (by rw [hf]; exact hu) hp, hf]
  exact h
theorem part_leaf {t : TypeId} {D : TypeDesc} {off : Nat} {v : Value} (hu : P.underlying t = some D) (hd : D.isRow = false) (hx : xs[off]? = some v) : (part t xs off).run P w = .ok v w := by
  have hagg : (isAgg t).run P w = .ok false w := by
    unfold isAgg
    rw [Sem.run_bind, run_underlying hu w]
    cases D <;> simp_all [TypeDesc.isRow]
  unfold part
  simp [Sem.run_bind, hagg, hx]
theorem part_row {t : TypeId} {D : TypeDesc} {off n : Nat} {cs : Array Value} (hu : P.underlying t = some D) (hd : D.isRow = true) (hi : (P.info? t).map (·.size) = some n) (hx : xs.extract off (off + n) = cs) : (part t xs off).run P w = .ok (.agg cs) w := by
  have hagg : (isAgg t).run P w = .ok true w := by
    unfold isAgg
    rw [Sem.run_bind, run_underlying hu w]
    cases D <;> simp_all [TypeDesc.isRow]
  cases hq : P.info? t with
  | none => simp [hq] at hi
  | some i =>
    have hs : i.size = n := by simpa [hq] using hi
    unfold part
    simp [Sem.run_bind, hagg, sizeOf, typeInfo, hq, hs, hx]
end

set_option maxHeartbeats 4000000 in
theorem eqRec (d : Nat) (w : World) (x0 y0 x1 y1 : Int) (x2 y2 : ByteArray) :
    (Op.equalIn (d + 2) 25 (.agg #[.int .u32 x0, .int .u16 x1, .string x2]) (.agg #[.int .u32 y0, .int .u16 y1, .string y2])).run Tryd.prog w = .ok (x0 == y0 && (x1 == y1 && (x2.toList == y2.toList))) w := by
  refine eq_of Tryd.underlying25 (by kernel_rfl) ?_
  refine eq_cons (by rfl) (part_leaf Tryd.underlying22 rfl (by rfl)) (part_leaf Tryd.underlying22 rfl (by rfl)) (run_equalIn_int w _ _ _ _ _ _ Tryd.underlying22) ?_
  refine eq_cons (by rfl) (part_leaf Tryd.underlying23 rfl (by rfl)) (part_leaf Tryd.underlying23 rfl (by rfl)) (run_equalIn_int w _ _ _ _ _ _ Tryd.underlying23) ?_
  exact eq_last (by rfl) (part_leaf Tryd.underlying9 rfl (by rfl)) (part_leaf Tryd.underlying9 rfl (by rfl)) (run_equalIn_string w _ _ _ _ Tryd.underlying9)

/-- '==' of two records. -/
theorem rec_eql (w : World) (x0 y0 x1 y1 : Int) (x2 y2 : ByteArray) :
    (binOp .eql 25 (.agg #[.int .u32 x0, .int .u16 x1, .string x2]) (.agg #[.int .u32 y0, .int .u16 y1, .string y2])).run Tryd.prog w = .ok (.bool (x0 == y0 && (x1 == y1 && (x2.toList == y2.toList)))) w := by
  rw [run_eql_struct, eqRec]
  rfl
theorem rec_neq (w : World) (x0 y0 x1 y1 : Int) (x2 y2 : ByteArray) :
    (binOp .neq 25 (.agg #[.int .u32 x0, .int .u16 x1, .string x2]) (.agg #[.int .u32 y0, .int .u16 y1, .string y2])).run Tryd.prog w = .ok (.bool (!(x0 == y0 && (x1 == y1 && (x2.toList == y2.toList))))) w := by
  rw [run_neq_struct, eqRec]
  rfl
theorem rec_same (w : World) (x0 x1 : Int) (x2 : ByteArray) : (binOp .eql 25 (.agg #[.int .u32 x0, .int .u16 x1, .string x2]) (.agg #[.int .u32 x0, .int .u16 x1, .string x2])).run Tryd.prog w = .ok (.bool true) w := by
  rw [rec_eql]
  simp
end Go.Proofs.YtocbaapnajdcfaaDoor
