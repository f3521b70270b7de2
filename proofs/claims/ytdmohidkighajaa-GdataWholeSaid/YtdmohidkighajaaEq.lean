/- '==' of a Version, an Epoch, a Frame (written by tools/gen_eqfr.py). -/
import Derived.Test.YtdmohidkighajaaRs
import Derived.Laws.StructEq
import Derived.Deep.MidRow
namespace Go.Proofs.Ytdmohidkighajaa
open Go.RowKit
set_option linter.unusedVariables false
set_option linter.unusedSimpArgs false
section
variable {P : Program} {d : Nat} {xs ys : Array Value} {f : Field} {fs : List Field} {a b : Value} {r s : Bool} {w : World}
theorem eq_cons (hn : (f.name == "_") = false) (ha : (part f.type xs f.offset).run P w = .ok a w) (hb : (part f.type ys f.offset).run P w = .ok b w) (he : (Op.equalIn d f.type a b).run P w = .ok r w) (hr : (Op.eqFields d xs ys fs).run P w = .ok s w) : (Op.eqFields d xs ys (f :: fs)).run P w = .ok (r && s) w := by
  have hn' : f.name ≠ "_" := by simpa using hn
  unfold Op.eqFields
  simp only [if_pos hn', Sem.run_bind, ha, hb, he, Result.andThen_ok]
  cases r <;> simp [hr]
theorem eq_last (hn : (f.name == "_") = false) (ha : (part f.type xs f.offset).run P w = .ok a w) (hb : (part f.type ys f.offset).run P w = .ok b w) (he : (Op.equalIn d f.type a b).run P w = .ok r w) : (Op.eqFields d xs ys [f]).run P w = .ok r w := by
  have := eq_cons (s := true) (fs := []) hn ha hb he (by simp [Op.eqFields])
  rwa [Bool.and_true] at this
theorem eq_of {t : TypeId} {fs : Array Field} (hu : P.underlying t = some (.struct fs)) (hp : P.stoodInHeld t = false) (h : (Op.eqFields d xs ys fs.toList).run P w = .ok r w) : (Op.equalIn (d + 1) t (.agg xs) (.agg ys)).run P w = .ok r w := by
  have hf : P.fieldsOf t = fs := by simp [Program.fieldsOf, hu]
  rw [run_equalIn_struct (P := P) w d t xs ys (by rw [hf]; exact hu) hp, hf]
  exact h
theorem part_leaf {t : TypeId} {D : TypeDesc} {off : Nat} {v : Value} (hu : P.underlying t = some D) (hd : D.isRow = false) (hx : xs[off]? = some v) : (part t xs off).run P w = .ok v w := by
  have hagg : (isAgg t).run P w = .ok false w := by
    unfold isAgg
    rw [Sem.run_bind, run_underlying hu w]
    cases D <;> simp_all [TypeDesc.isRow]
  unfold part
  simp [Sem.run_bind, hagg, hx]
theorem part_row {t : TypeId} {D : TypeDesc} {off n : Nat} {cs : Array Value} (hu : P.underlying t = some D) (hd : D.isRow = true) (hi : (P.info? t).map (·.size) = some n) (hx : xs.extract off (off + n) = cs) : (part t xs off).run P w = .ok (.agg cs) w := by
  have hagg : (isAgg t).run P w = .ok true w := by
    unfold isAgg
    rw [Sem.run_bind, run_underlying hu w]
    cases D <;> simp_all [TypeDesc.isRow]
  cases hq : P.info? t with
  | none => simp [hq] at hi
  | some i =>
    have hs : i.size = n := by simpa [hq] using hi
    unfold part
    simp [Sem.run_bind, hagg, sizeOf, typeInfo, hq, hs, hx]
end

set_option maxHeartbeats 4000000 in
theorem eqV (d : Nat) (w : World) (x0 y0 : Int) (x1 y1 : Int) :
    (Op.equalIn (d + 2) 34 (.agg #[.int .u16 x0, .int .u32 x1]) (.agg #[.int .u16 y0, .int .u32 y1])).run Try.prog w = .ok (x0 == y0 && (x1 == y1)) w := by
  refine eq_of Try.underlying34 (by kernel_rfl) ?_
  refine eq_cons (by rfl) (part_leaf Try.underlying27 rfl (by rfl)) (part_leaf Try.underlying27 rfl (by rfl)) (run_equalIn_int w _ _ _ _ _ _ Try.underlying27) ?_
  exact eq_last (by rfl) (part_leaf Try.underlying32 rfl (by rfl)) (part_leaf Try.underlying32 rfl (by rfl)) (run_equalIn_int w _ _ _ _ _ _ Try.underlying32)

set_option maxHeartbeats 4000000 in
theorem eqE (d : Nat) (w : World) (x0 y0 : Int) (x1 y1 : Int) (x2 y2 : Int) :
    (Op.equalIn (d + 2) 31 (.agg #[.int .u16 x0, .int .u8 x1, .int .u16 x2]) (.agg #[.int .u16 y0, .int .u8 y1, .int .u16 y2])).run Try.prog w = .ok (x0 == y0 && (x1 == y1 && (x2 == y2))) w := by
  refine eq_of Try.underlying31 (by kernel_rfl) ?_
  refine eq_cons (by rfl) (part_leaf Try.underlying27 rfl (by rfl)) (part_leaf Try.underlying27 rfl (by rfl)) (run_equalIn_int w _ _ _ _ _ _ Try.underlying27) ?_
  refine eq_cons (by rfl) (part_leaf Try.underlying5 rfl (by rfl)) (part_leaf Try.underlying5 rfl (by rfl)) (run_equalIn_int w _ _ _ _ _ _ Try.underlying5) ?_
  exact eq_last (by rfl) (part_leaf Try.underlying27 rfl (by rfl)) (part_leaf Try.underlying27 rfl (by rfl)) (run_equalIn_int w _ _ _ _ _ _ Try.underlying27)

set_option maxHeartbeats 4000000 in
theorem eqF (d : Nat) (w : World) (x0 y0 : Int) (x1 y1 : Int) (x2 y2 : Int) (x3 y3 : Int) (x4 y4 : Int) (x5 y5 : Int) (x6 y6 : Int) (x7 y7 : Int) (x8 y8 : Int) (x9 y9 : Int) (x10 y10 : Int) (x11 y11 : Int) (x12 y12 : Bool) (x13 y13 : Int) (x14 y14 : Int) (x15 y15 : Int) (x16 y16 : Int) (x17 y17 : Int) (x18 y18 : ByteArray) :
    (Op.equalIn (d + 3) 36 (.agg #[.int .i64 x0, .int .u8 x1, .int .u8 x2, .int .u16 x3, .int .u16 x4, .int .u16 x5, .int .u8 x6, .int .u16 x7, .int .u16 x8, .int .u16 x9, .int .u8 x10, .int .u16 x11, .bool x12, .int .u8 x13, .int .u16 x14, .int .u32 x15, .int .u8 x16, .int .u8 x17, .string x18]) (.agg #[.int .i64 y0, .int .u8 y1, .int .u8 y2, .int .u16 y3, .int .u16 y4, .int .u16 y5, .int .u8 y6, .int .u16 y7, .int .u16 y8, .int .u16 y9, .int .u8 y10, .int .u16 y11, .bool y12, .int .u8 y13, .int .u16 y14, .int .u32 y15, .int .u8 y16, .int .u8 y17, .string y18])).run Try.prog w = .ok (x0 == y0 && (x1 == y1 && (x2 == y2 && (x3 == y3 && (x4 == y4 && ((x5 == y5 && (x6 == y6 && (x7 == y7))) && (x8 == y8 && ((x9 == y9 && (x10 == y10 && (x11 == y11))) && (x12 == y12 && (x13 == y13 && ((x14 == y14 && (x15 == y15)) && (x16 == y16 && (x17 == y17 && (x18.toList == y18.toList)))))))))))))) w := by
  refine eq_of Try.underlying36 (by kernel_rfl) ?_
  refine eq_cons (by rfl) (part_leaf Try.underlying3 rfl (by rfl)) (part_leaf Try.underlying3 rfl (by rfl)) (run_equalIn_int w _ _ _ _ _ _ Try.underlying3) ?_
  refine eq_cons (by rfl) (part_leaf Try.underlying5 rfl (by rfl)) (part_leaf Try.underlying5 rfl (by rfl)) (run_equalIn_int w _ _ _ _ _ _ Try.underlying5) ?_
  refine eq_cons (by rfl) (part_leaf Try.underlying5 rfl (by rfl)) (part_leaf Try.underlying5 rfl (by rfl)) (run_equalIn_int w _ _ _ _ _ _ Try.underlying5) ?_
  refine eq_cons (by rfl) (part_leaf Try.underlying27 rfl (by rfl)) (part_leaf Try.underlying27 rfl (by rfl)) (run_equalIn_int w _ _ _ _ _ _ Try.underlying27) ?_
  refine eq_cons (by rfl) (part_leaf Try.underlying27 rfl (by rfl)) (part_leaf Try.underlying27 rfl (by rfl)) (run_equalIn_int w _ _ _ _ _ _ Try.underlying27) ?_
  refine eq_cons (by rfl) (part_row (n := 3) Try.underlying31 rfl (by kernel_rfl) (by rfl)) (part_row (n := 3) Try.underlying31 rfl (by kernel_rfl) (by rfl)) (eqE d w _ _ _ _ _ _) ?_
  refine eq_cons (by rfl) (part_leaf Try.underlying27 rfl (by rfl)) (part_leaf Try.underlying27 rfl (by rfl)) (run_equalIn_int w _ _ _ _ _ _ Try.underlying27) ?_
  refine eq_cons (by rfl) (part_row (n := 3) Try.underlying31 rfl (by kernel_rfl) (by rfl)) (part_row (n := 3) Try.underlying31 rfl (by kernel_rfl) (by rfl)) (eqE d w _ _ _ _ _ _) ?_
  refine eq_cons (by rfl) (part_leaf Try.underlying4 rfl (by rfl)) (part_leaf Try.underlying4 rfl (by rfl)) (run_equalIn_bool' w _ _ _ _ Try.underlying4) ?_
  refine eq_cons (by rfl) (part_leaf Try.underlying5 rfl (by rfl)) (part_leaf Try.underlying5 rfl (by rfl)) (run_equalIn_int w _ _ _ _ _ _ Try.underlying5) ?_
  refine eq_cons (by rfl) (part_row (n := 2) Try.underlying34 rfl (by kernel_rfl) (by rfl)) (part_row (n := 2) Try.underlying34 rfl (by kernel_rfl) (by rfl)) (eqV d w _ _ _ _) ?_
  refine eq_cons (by rfl) (part_leaf Try.underlying5 rfl (by rfl)) (part_leaf Try.underlying5 rfl (by rfl)) (run_equalIn_int w _ _ _ _ _ _ Try.underlying5) ?_
  refine eq_cons (by rfl) (part_leaf Try.underlying5 rfl (by rfl)) (part_leaf Try.underlying5 rfl (by rfl)) (run_equalIn_int w _ _ _ _ _ _ Try.underlying5) ?_
  exact eq_last (by rfl) (part_leaf Try.underlying9 rfl (by rfl)) (part_leaf Try.underlying9 rfl (by rfl)) (run_equalIn_string w _ _ _ _ Try.underlying9)

theorem frame_same (f : Fr) (w : World) : (Op.equalIn 10000 36 (.agg (frV f)) (.agg (frV f))).run Try.prog w = .ok true w := by
  have := eqF 9997 w f.kind f.kind f.src f.src f.dst f.dst f.srcInc f.srcInc f.dstInc f.dstInc f.ec f.ec f.ea f.ea f.ei f.ei f.hop f.hop f.hc f.hc f.ha f.ha f.hi f.hi f.wants f.wants f.block f.block f.vi f.vi f.vs f.vs f.part f.part f.parts f.parts f.bytes f.bytes
  simpa [frV] using this
end Go.Proofs.Ytdmohidkighajaa
