/- A region that only reads, where it loads a whole struct or compares two: one walk, with arms of one's own. -/
import Derived.Test.YtoekemceminciaaPu
namespace Go.Proofs.Ytoekemceminciaa
open Go.RowKit
set_option linter.unusedVariables false
set_option linter.unusedSimpArgs false

section
variable {P : Program} {ops : Array Oper} {C : World → Prop} {Q : Act → Prop} {o : Oper} {rest : List Oper} {a : Act}
theorem wpQuiet_val (hgd : o.guard = none) (v : Value) (hr : ∀ w, C w → (execOp a.eval o).run P w = .ok (.value v) w) (h : wpQuiet P ops C Q rest (a.put o.dst v)) : wpQuiet P ops C Q (o :: rest) a := by
  refine wpQuiet_step fun K hK => ?_
  rw [if_pos (by simp [Region.wanted, hgd])]
  refine ⟨v, fun w hw => ?_, hK _ h⟩
  unfold Oper.quietAt
  rw [hr w hw]
  exact ⟨rfl, rfl⟩
theorem wpQuiet_load_mid (hgd : o.guard = none) (ty : TypeId) (x : Operand) (ho : o.op = .load ty x) (b off : Nat) (hx : a.eval x = .pointer (some ⟨b, off, none⟩)) (cs : List Value) (d : TypeDesc) (hc : ∀ w, C w → w.rangeAt b off cs)
    (hu : P.underlying ty = some d) (hd : d.isRow = true) (hi : (P.info? ty).map (·.size) = some cs.length) (h : wpQuiet P ops C Q rest (a.put o.dst (.agg cs.toArray))) : wpQuiet P ops C Q (o :: rest) a := by
  refine wpQuiet_val hgd _ (fun w hw => ?_) h
  unfold execOp
  simp only [ho, hx, Instr.loadAt, Instr.sureAddr, Sem.run_bind, Sem.run_pure, Result.andThen_ok, run_loadVar_mid w b off ty cs d (hc w hw) hu hd hi]
theorem wpQuiet_neq (hgd : o.guard = none) (t u : TypeId) (x y : Operand) (ho : o.op = .binOp .neq t x y u) (xs ys : Array Value) (hx : a.eval x = .agg xs) (hy : a.eval y = .agg ys) (hm : P.eqGuardType P.depth t = false) (r : Bool)
    (hr : ∀ w, (Op.equalIn 10000 t (.agg xs) (.agg ys)).run P w = .ok r w) (h : wpQuiet P ops C Q rest (a.put o.dst (.bool (!r)))) : wpQuiet P ops C Q (o :: rest) a := by
  refine wpQuiet_val hgd _ (fun w hw => ?_) h
  unfold execOp
  simp only [ho, hx, hy, Sem.run_bind, run_eqGuard_agg w .neq t x y xs ys hm, Result.andThen_ok, run_neq_struct, hr w, Sem.run_pure]
end

theorem range_heap {w w' : World} {g o : Nat} {cs : List Value} (h : w.rangeAt g o cs) (hw : w'.heap = w.heap) : w'.rangeAt g o cs := fun j u hj => by rw [World.cell?_of_block (w := w) (by rw [hw])]; exact h j u hj
theorem range_drewN {w : World} {g o : Nat} {cs : List Value} (h : w.rangeAt g o cs) : ∀ w', (∃ n, w' = w.drewN n) → w'.rangeAt g o cs := by
  rintro _ ⟨n, rfl⟩
  exact range_heap h rfl

end Go.Proofs.Ytoekemceminciaa
