/- Strings that came in, opened; a number's bounds. -/
import Derived.Test.YtdmohidkighajaaGm
import Derived.ProofKit
import Derived.OpenShut
import Derived.SizedLaws
import Derived.Deep.Slices
import Derived.Deep.Fields
import Derived.ChangeSame
namespace Go.Proofs.Ytdmohidkighajaa
open Go.ChangeShapes Go.WideShapes Go.ChangeAt Go.RowKit Go.WideMaps Go.WideElems Go.Deep
set_option linter.unusedVariables false
set_option linter.unusedSimpArgs false
theorem wf_bounds2 {k : IntKind} {n : Int} (h : (Lit.int k n).wf = true) : k.min ≤ n ∧ n ≤ k.max := by
  simpa [Lit.wf] using h
theorem cells_string2 : Try.prog.cellsOf 9 = 1 := by kernel_rfl
section
variable {H : Type} {enc : TypeId × Value → H}
set_option maxRecDepth 100000 in
theorem open_strsIn {W : World} {base : Nat} {v : Value} {d : DataW H} {p : List MemPlace} (hv : Value.okWide Try.prog W .any base 22 v) (h : DataW.Trod enc Try.prog W 0 (fun _ => true) true 22 v d p) :
    ∃ (A : Option Addr) (n c : Nat), v = .slice A n c ∧ StrsIn W A n := by
  obtain ⟨A, n, c, rfl⟩ := okWide_slice Try.underlying22 hv
  obtain ⟨fuel, hf⟩ := h
  refine ⟨A, n, c, rfl, ?_⟩
  rcases open_slice Try.underlying22 hf with ⟨hcs, _⟩ | ⟨a, len, cap, m, n', D, Pl, hcs, _, hl, _, hm, _, hi⟩
  · simp [Value.cells] at hcs
    obtain ⟨_, rfl, _⟩ := hcs
    exact fun i hi => absurd hi (by omega)
  · simp [Value.cells] at hcs
    obtain ⟨rfl, rfl, rfl⟩ := hcs
    intro i hin
    simp only [if_true] at hm
    obtain ⟨cs', hc, ht'⟩ := hi i (by omega)
    rw [cells_string2] at hc
    obtain ⟨_, hcl, hat⟩ := World.cells?_some hc
    obtain ⟨x, e, _, hw⟩ := DataW.trod_string Try.underlying9 ht'
    subst e
    have h0 := hat 0 (by omega)
    have hblk := World.block_lt_of_cell? _ _ h0
    simp only [Go.Deep.add_add, Nat.add_zero, Nat.mul_one] at h0 hblk
    rw [block_add] at hblk
    exact ⟨a, x, rfl, hblk, h0⟩
set_option maxRecDepth 100000 in
theorem open_u16 {W : World} {base : Nat} {v : Value} {d : DataW H} {p : List MemPlace} (hv : Value.okWide Try.prog W .any base 27 v) (h : DataW.Trod enc Try.prog W 0 (fun _ => true) true 27 v d p) :
    ∃ n : Int, v = .int .u16 n ∧ 0 ≤ n ∧ n ≤ 65535 := by
  obtain ⟨n, rfl⟩ := okWide_int Try.underlying27 hv
  obtain ⟨fuel, hf0⟩ := h
  obtain ⟨n', e0, _, hw0⟩ := DataW.trod_int Try.underlying27 hf0
  have e0' : n = n' := by simpa [Value.cells] using e0
  subst e0'
  have hb0 := wf_bounds2 hw0
  exact ⟨n, rfl, hb0.1, hb0.2⟩
end

theorem gpubs_key (size inc : Int) (hi : 0 ≤ inc ∧ inc ≤ 65535) (A : Option Addr) (nl cl : Nat) (w : World) (hS : StrsIn w A nl) :
    Calls Try.prog 6 #[.int .i64 size, .int .u16 inc, .slice A nl cl] w fun e w' => e = .returned (.bool true) ∧ Below w.heap.size w w' := by
  by_cases h : 80 < nl
  · exact gpubs_long size inc A nl cl w h
  · by_cases hs : 1 ≤ size ∧ size ≤ 64
    · obtain ⟨n, rfl⟩ : ∃ n : Nat, size = n := ⟨size.toNat, by omega⟩
      exact gpubs_any n inc (by omega) (by omega) hi A nl cl w (by omega) hS
    · exact gpubs_bad size inc hs A nl cl w (by omega)
end Go.Proofs.Ytdmohidkighajaa
