/- What came in by layer 7's statements, opened: a record, strings, bytes. -/
import Derived.Test.YtocbaapnajdcfaaDoorLe
import Derived.ProofKit
import Derived.OpenShut
import Derived.SizedLaws
import Derived.Deep.Slices
import Derived.Deep.Fields
import Derived.ChangeSame
namespace Go.Proofs.YtocbaapnajdcfaaDoor
open Go.ChangeShapes Go.WideShapes Go.ChangeAt Go.RowKit Go.WideMaps Go.WideElems Go.Deep
set_option linter.unusedVariables false
set_option linter.unusedSimpArgs false
theorem wf_bounds2 {k : IntKind} {n : Int} (h : (Lit.int k n).wf = true) : k.min ≤ n ∧ n ≤ k.max := by
  simpa [Lit.wf] using h
theorem cellsRec : Tryd.prog.cellsOf 25 = 3 := by kernel_rfl
theorem cells1_u8 : Tryd.prog.cellsOf 5 = 1 := by kernel_rfl
theorem cells1_u16 : Tryd.prog.cellsOf 23 = 1 := by kernel_rfl
theorem cells1_u32 : Tryd.prog.cellsOf 22 = 1 := by kernel_rfl
theorem cells1_string : Tryd.prog.cellsOf 9 = 1 := by kernel_rfl
section
variable {H : Type} {enc : TypeId × Value → H}
set_option maxRecDepth 100000 in
theorem open_u8 {W : World} {base : Nat} {v : Value} {d : DataW H} {p : List MemPlace} (hv : Value.okWide Tryd.prog W .any base 5 v) (h : DataW.Trod enc Tryd.prog W 0 (fun _ => true) true 5 v d p) :
    ∃ n : Int, v = .int .u8 n ∧ 0 ≤ n ∧ n ≤ 255 := by
  obtain ⟨n, rfl⟩ := okWide_int Tryd.underlying5 hv
  obtain ⟨fuel, hf0⟩ := h
  obtain ⟨n', e0, _, hw0⟩ := DataW.trod_int Tryd.underlying5 hf0
  have e0' : n = n' := by simpa [Value.cells] using e0
  subst e0'
  have hb0 := wf_bounds2 hw0
  exact ⟨n, rfl, hb0.1, hb0.2⟩
set_option maxRecDepth 100000 in
/-- A Record by value. -/
theorem open_rec {W : World} {base : Nat} {v : Value} {d : DataW H} {p : List MemPlace} (hv : Value.okWide Tryd.prog W .any base 25 v) (h : DataW.Trod enc Tryd.prog W 0 (fun _ => true) true 25 v d p) :
    ∃ (a b : Nat) (s : ByteArray), v = .agg #[.int .u32 a, .int .u16 b, .string s] ∧ a < 4294967296 ∧ b < 65536 := by
  obtain ⟨cs, rfl, hsz⟩ : ∃ cs : Array Value, v = .agg cs ∧ cs.size = 3 := by
    simp only [Value.okWide, Tryd.underlying25] at hv
    obtain ⟨cs, h1, h2, _⟩ := hv
    exact ⟨cs, h1, by rw [h2, cellsRec]⟩
  obtain ⟨l⟩ := cs
  match l, hsz with
  | [c0, c1, c2], _ =>
    obtain ⟨fuel, hf⟩ := h
    obtain ⟨xs, m, _, _, hl, hxl, hi⟩ := DataW.trod_struct Tryd.underlying25 hf
    match xs, hxl with
    | [y0, y1, y2], _ =>
      have t0 := hi 0 _ rfl
      obtain ⟨v0, e0, _, w0⟩ := DataW.trod_int Tryd.underlying22 t0
      simp [cells1_u32, Value.cells] at e0
      subst e0
      have t1 := hi 1 _ rfl
      obtain ⟨v1, e1, _, w1⟩ := DataW.trod_int Tryd.underlying23 t1
      simp [cells1_u16, Value.cells] at e1
      subst e1
      have t2 := hi 2 _ rfl
      obtain ⟨v2, e2, _, w2⟩ := DataW.trod_string Tryd.underlying9 t2
      simp [cells1_string, Value.cells] at e2
      subst e2
      have b0 := wf_bounds2 w0
      have b1 := wf_bounds2 w1
      have b0a : (0 : Int) ≤ v0 := b0.1
      have b0b : v0 ≤ 4294967295 := b0.2
      have b1a : (0 : Int) ≤ v1 := b1.1
      have b1b : v1 ≤ 65535 := b1.2
      refine ⟨v0.toNat, v1.toNat, v2, ?_, by omega, by omega⟩
      rw [show ((v0.toNat : Nat) : Int) = v0 by omega, show ((v1.toNat : Nat) : Int) = v1 by omega]
end

theorem ends_key (a b : Nat) (s : ByteArray) (ha : a < 4294967296) (hb : b < 65536) (top : Int) (w : World) :
    Calls Tryd.prog 3 #[.agg #[.int .u32 a, .int .u16 b, .string s], .int .u8 top] w fun e w' => e = .returned (.bool true) ∧ Below w.heap.size w w' := by
  by_cases h : 64 < s.size
  · exact ends_long ⟨a, b, s.data.toList⟩ ha hb s h top w
  · have := ends_short ⟨a, b, s.data.toList⟩ ⟨ha, hb, by show s.data.toList.length ≤ 64; rw [size_data]; omega⟩ top w
    unfold Rec.v at this
    rw [ofL_of] at this
    exact this
end Go.Proofs.YtocbaapnajdcfaaDoor
