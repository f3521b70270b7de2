/- A region that only reads, where it loads a whole struct or compares two: one walk, with arms of one's own. -/
import Derived.Test.YtdmohidkighajaaPu
import Derived.StillTailTactics
namespace Go.Proofs.Ytdmohidkighajaa
open Go.RowKit
set_option linter.unusedVariables false
set_option linter.unusedSimpArgs false

section
variable {P : Program} {ops : Array Oper} {w : World} {Q : Act → Prop} {o : Oper} {rest : List Oper} {a : Act}
theorem wpStill_val (hgd : o.guard = none) (v : Value) (hr : (execOp a.eval o).run P w = .ok (.value v) w) (h : wpStill P ops w Q rest (a.put o.dst v)) : wpStill P ops w Q (o :: rest) a := by
  refine wpStill_step fun K hK => ?_
  rw [if_pos (by simp [Region.wanted, hgd])]
  unfold Oper.still
  rw [hr]
  exact ⟨rfl, hK _ h⟩
theorem wpStill_load_mid (hgd : o.guard = none) (ty : TypeId) (x : Operand) (ho : o.op = .load ty x) (b off : Nat) (hx : a.eval x = .pointer (some ⟨b, off, none⟩)) (cs : List Value) (d : TypeDesc) (hc : w.rangeAt b off cs)
    (hu : P.underlying ty = some d) (hd : d.isRow = true) (hi : (P.info? ty).map (·.size) = some cs.length) (h : wpStill P ops w Q rest (a.put o.dst (.agg cs.toArray))) : wpStill P ops w Q (o :: rest) a := by
  refine wpStill_val hgd _ ?_ h
  unfold execOp
  simp only [ho, hx, Instr.loadAt, Instr.sureAddr, Sem.run_bind, Sem.run_pure, Result.andThen_ok, run_loadVar_mid w b off ty cs d hc hu hd hi]
end

section
variable {P : Program} {ops : Array Oper} {C : World → Prop} {Q : Act → Prop} {o : Oper} {rest : List Oper} {a : Act}
theorem wpQuiet_val (hgd : o.guard = none) (v : Value) (hr : ∀ w, C w → (execOp a.eval o).run P w = .ok (.value v) w) (h : wpQuiet P ops C Q rest (a.put o.dst v)) : wpQuiet P ops C Q (o :: rest) a := by
  refine wpQuiet_step fun K hK => ?_
  rw [if_pos (by simp [Region.wanted, hgd])]
  refine ⟨v, fun w hw => ?_, hK _ h⟩
  unfold Oper.quietAt
  rw [hr w hw]
  exact ⟨rfl, rfl⟩
theorem wpQuiet_load_mid (hgd : o.guard = none) (ty : TypeId) (x : Operand) (ho : o.op = .load ty x) (b off : Nat) (hx : a.eval x = .pointer (some ⟨b, off, none⟩)) (cs : List Value) (d : TypeDesc) (hc : ∀ w, C w → w.rangeAt b off cs)
    (hu : P.underlying ty = some d) (hd : d.isRow = true) (hi : (P.info? ty).map (·.size) = some cs.length) (h : wpQuiet P ops C Q rest (a.put o.dst (.agg cs.toArray))) : wpQuiet P ops C Q (o :: rest) a := by
  refine wpQuiet_val hgd _ (fun w hw => ?_) h
  unfold execOp
  simp only [ho, hx, Instr.loadAt, Instr.sureAddr, Sem.run_bind, Sem.run_pure, Result.andThen_ok, run_loadVar_mid w b off ty cs d (hc w hw) hu hd hi]
theorem wpQuiet_neq_w (hw : Region.wanted o (yielded ops a.tmps) = true) (t u : TypeId) (x y : Operand) (ho : o.op = .binOp .neq t x y u) (xs ys : Array Value) (hx : a.eval x = .agg xs) (hy : a.eval y = .agg ys) (hm : P.eqGuardType P.depth t = false) (r : Bool)
    (hr : ∀ w, (Op.equalIn 10000 t (.agg xs) (.agg ys)).run P w = .ok r w) (h : wpQuiet P ops C Q rest (a.put o.dst (.bool (!r)))) : wpQuiet P ops C Q (o :: rest) a := by
  refine wpQuiet_step fun K hK => ?_
  rw [if_pos hw]
  refine ⟨.bool (!r), fun w hwc => ?_, hK _ h⟩
  unfold Oper.quietAt execOp
  simp only [ho, hx, hy, Sem.run_bind, run_eqGuard_agg w .neq t x y xs ys hm, Result.andThen_ok, run_neq_struct, hr w, Sem.run_pure]
  exact ⟨rfl, rfl⟩
theorem wpQuiet_neq (hgd : o.guard = none) (t u : TypeId) (x y : Operand) (ho : o.op = .binOp .neq t x y u) (xs ys : Array Value) (hx : a.eval x = .agg xs) (hy : a.eval y = .agg ys) (hm : P.eqGuardType P.depth t = false) (r : Bool)
    (hr : ∀ w, (Op.equalIn 10000 t (.agg xs) (.agg ys)).run P w = .ok r w) (h : wpQuiet P ops C Q rest (a.put o.dst (.bool (!r)))) : wpQuiet P ops C Q (o :: rest) a := by
  refine wpQuiet_val hgd _ (fun w hw => ?_) h
  unfold execOp
  simp only [ho, hx, hy, Sem.run_bind, run_eqGuard_agg w .neq t x y xs ys hm, Result.andThen_ok, run_neq_struct, hr w, Sem.run_pure]
end

theorem splitL_len (f : Fr) (v : List UInt8) : (splitL f v).length = (nParts v.length).toNat := by unfold splitL; rw [List.length_map, List.length_range]
theorem splitL_get (f : Fr) (v : List UInt8) (i : Nat) (h : i < (nParts v.length).toNat) : (splitL f v)[i]? = some (f.of v (nParts v.length) i) := by
  unfold splitL
  simp [h]

theorem zero_ok (l : List UInt8) : ({ value := l, vi := 0, vs := 0, is := false, came := 0, n := 0 } : Gl).Ok := ⟨by show (0 : Int) ≤ 0; decide, by show (0 : Int) < 16; decide, by show (0 : Int) = pop 0; decide +kernel⟩
theorem draws_below (B : Nat) (w : World) (n : Nat) : Below B w (w.drewN n) := ⟨rfl, rfl, rfl, Nat.le_refl _, fun _ _ => rfl⟩

theorem range_heap {w w' : World} {g o : Nat} {cs : List Value} (h : w.rangeAt g o cs) (hw : w'.heap = w.heap) : w'.rangeAt g o cs := fun j u hj => by rw [World.cell?_of_block (w := w) (by rw [hw])]; exact h j u hj
theorem range_cells {W : World} {g o : Nat} {F : Fr} (h : W.rangeAt g o (frV F).toList) : W.cell? ⟨g, o, none⟩ = some (.int .i64 F.kind) ∧ W.cell? ⟨g, o + 1, none⟩ = some (.int .u8 F.src) ∧ W.cell? ⟨g, o + 2, none⟩ = some (.int .u8 F.dst) ∧ W.cell? ⟨g, o + 3, none⟩ = some (.int .u16 F.srcInc) ∧ W.cell? ⟨g, o + 4, none⟩ = some (.int .u16 F.dstInc) ∧ W.cell? ⟨g, o + 5, none⟩ = some (.int .u16 F.ec) ∧ W.cell? ⟨g, o + 6, none⟩ = some (.int .u8 F.ea) ∧ W.cell? ⟨g, o + 7, none⟩ = some (.int .u16 F.ei) ∧ W.cell? ⟨g, o + 8, none⟩ = some (.int .u16 F.hop) ∧ W.cell? ⟨g, o + 9, none⟩ = some (.int .u16 F.hc) ∧ W.cell? ⟨g, o + 10, none⟩ = some (.int .u8 F.ha) ∧ W.cell? ⟨g, o + 11, none⟩ = some (.int .u16 F.hi) ∧ W.cell? ⟨g, o + 12, none⟩ = some (.bool F.wants) ∧ W.cell? ⟨g, o + 13, none⟩ = some (.int .u8 F.block) ∧ W.cell? ⟨g, o + 14, none⟩ = some (.int .u16 F.vi) ∧ W.cell? ⟨g, o + 15, none⟩ = some (.int .u32 F.vs) ∧ W.cell? ⟨g, o + 16, none⟩ = some (.int .u8 F.part) ∧ W.cell? ⟨g, o + 17, none⟩ = some (.int .u8 F.parts) ∧ W.cell? ⟨g, o + 18, none⟩ = some (.string F.bytes) :=
  ⟨h 0 _ rfl, h 1 _ rfl, h 2 _ rfl, h 3 _ rfl, h 4 _ rfl, h 5 _ rfl, h 6 _ rfl, h 7 _ rfl, h 8 _ rfl, h 9 _ rfl, h 10 _ rfl, h 11 _ rfl, h 12 _ rfl, h 13 _ rfl, h 14 _ rfl, h 15 _ rfl, h 16 _ rfl, h 17 _ rfl, h 18 _ rfl⟩
theorem range_drewN {w : World} {g o : Nat} {cs : List Value} (h : w.rangeAt g o cs) : ∀ w', (∃ n, w' = w.drewN n) → w'.rangeAt g o cs := by
  rintro _ ⟨n, rfl⟩
  exact range_heap h rfl

end Go.Proofs.Ytdmohidkighajaa
