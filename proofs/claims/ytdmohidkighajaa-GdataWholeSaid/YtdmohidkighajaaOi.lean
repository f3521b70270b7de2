/- GdataComes, whatever its arguments; a byte's bounds. -/
import Derived.Test.YtdmohidkighajaaHe
import Derived.Test.YtdmohidkighajaaOg
import Derived.Test.YtdmohidkighajaaOf
namespace Go.Proofs.Ytdmohidkighajaa
open Go.ChangeShapes Go.WideShapes Go.ChangeAt Go.RowKit Go.WideMaps Go.WideElems Go.Deep
set_option linter.unusedVariables false
set_option linter.unusedSimpArgs false
section
variable {H : Type} {enc : TypeId × Value → H}
set_option maxRecDepth 100000 in
theorem open_u8 {W : World} {base : Nat} {v : Value} {d : DataW H} {p : List MemPlace} (hv : Value.okWide Try.prog W .any base 5 v) (h : DataW.Trod enc Try.prog W 0 (fun _ => true) true 5 v d p) :
    ∃ n : Int, v = .int .u8 n ∧ 0 ≤ n ∧ n ≤ 255 := by
  obtain ⟨n, rfl⟩ := okWide_int Try.underlying5 hv
  obtain ⟨fuel, hf0⟩ := h
  obtain ⟨n', e0, _, hw0⟩ := DataW.trod_int Try.underlying5 hf0
  have e0' : n = n' := by simpa [Value.cells] using e0
  subst e0'
  have hb0 := wf_bounds2 hw0
  exact ⟨n, rfl, hb0.1, hb0.2⟩
end
theorem gcomes_key (size : Int) (h0 : 0 ≤ size) (h1 : size ≤ 255) (A B : Option Addr) (nv cv nt ct : Nat) (w : World) (hS : StrsIn w A nv) (hT : Turns w B nt) :
    Calls Try.prog 3 #[.int .u8 size, .slice A nv cv, .slice B nt ct] w fun e w' => e = .returned (.bool true) ∧ Below w.heap.size w w' := by
  by_cases h : nv < 1 ∨ 20 < nv ∨ nt < nv
  · exact gcomes_long size h0 h1 A B nv cv nt ct w h
  · exact gcomes_any size h0 h1 A B nv cv nt ct w (by omega) (by omega) (by omega) hS hT
end Go.Proofs.Ytdmohidkighajaa
