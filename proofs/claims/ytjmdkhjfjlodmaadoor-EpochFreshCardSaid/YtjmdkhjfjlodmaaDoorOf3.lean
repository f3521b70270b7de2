/- Layer 3: what came in, opened: epochs. -/
import Derived.Test.YtjmdkhjfjlodmaaDoorOe
import Derived.Test.YtjmdkhjfjlodmaaDoorShelfM
import Derived.ProofKit
import Derived.OpenShut
import Derived.SizedLaws
import Derived.Deep.Slices
import Derived.Deep.Fields
import Derived.ChangeSame
namespace Go.Proofs.YtjmdkhjfjlodmaaDoor
open Go.ChangeShapes Go.WideShapes Go.ChangeAt Go.RowKit Go.WideMaps Go.WideElems Go.Deep
set_option linter.unusedVariables false
set_option linter.unusedSimpArgs false
theorem env_of {W : World} (h : laidMet Tryd.prog laid7 W) (hS : W.ShapedOpen Tryd.prog) : Env W := by
  obtain ⟨m, hm⟩ := Tryd.laysM146.s1_3 W hS
  exact ⟨⟨m, hm⟩, pow_tab h, syn_var h, rng_var h⟩
theorem wf_bounds2 {k : IntKind} {n : Int} (h : (Lit.int k n).wf = true) : k.min ≤ n ∧ n ≤ k.max := by
  simpa [Lit.wf] using h
theorem cellsEp : Tryd.prog.cellsOf 24 = 3 := by kernel_rfl
theorem cells1_u8 : Tryd.prog.cellsOf 5 = 1 := by kernel_rfl
theorem cells1_u16 : Tryd.prog.cellsOf 22 = 1 := by kernel_rfl
section
variable {H : Type} {enc : TypeId × Value → H}
set_option maxRecDepth 100000 in
/-- Three cells that read as an Epoch. -/
theorem open_ep3 {W : World} {fuel : Nat} {c0 c1 c2 : Value} {x : DataW H × List MemPlace} (hf : DataW.trod enc Tryd.prog W 0 (fun _ => true) true fuel 24 [c0, c1, c2] = some x) :
    ∃ e : Ep, e.ok ∧ c0 = .int .u16 e.c ∧ c1 = .int .u8 e.a ∧ c2 = .int .u16 e.i := by
  obtain ⟨xs, m, _, _, hl, hxl, hi⟩ := DataW.trod_struct Tryd.underlying24 hf
  match xs, hxl with
  | [y0, y1, y2], _ =>
    have t0 := hi 0 _ rfl
    obtain ⟨v0, e0, _, w0⟩ := DataW.trod_int Tryd.underlying22 t0
    simp [cells1_u16, Value.cells] at e0
    subst e0
    have t1 := hi 1 _ rfl
    obtain ⟨v1, e1, _, w1⟩ := DataW.trod_int Tryd.underlying5 t1
    simp [cells1_u8, Value.cells] at e1
    subst e1
    have t2 := hi 2 _ rfl
    obtain ⟨v2, e2, _, w2⟩ := DataW.trod_int Tryd.underlying22 t2
    simp [cells1_u16, Value.cells] at e2
    subst e2
    have b0 := wf_bounds2 w0
    have b1 := wf_bounds2 w1
    have b2 := wf_bounds2 w2
    have b0a : (0 : Int) ≤ v0 := b0.1
    have b0b : v0 ≤ 65535 := b0.2
    have b1a : (0 : Int) ≤ v1 := b1.1
    have b1b : v1 ≤ 255 := b1.2
    have b2a : (0 : Int) ≤ v2 := b2.1
    have b2b : v2 ≤ 65535 := b2.2
    refine ⟨⟨v0.toNat, v1.toNat, v2.toNat⟩, ⟨by show v0.toNat < 65536; omega, by show v1.toNat < 256; omega, by show v2.toNat < 65536; omega⟩, ?_, ?_, ?_⟩
    · show Value.int .u16 v0 = Value.int .u16 ((v0.toNat : Nat) : Int); rw [show ((v0.toNat : Nat) : Int) = v0 by omega]
    · show Value.int .u8 v1 = Value.int .u8 ((v1.toNat : Nat) : Int); rw [show ((v1.toNat : Nat) : Int) = v1 by omega]
    · show Value.int .u16 v2 = Value.int .u16 ((v2.toNat : Nat) : Int); rw [show ((v2.toNat : Nat) : Int) = v2 by omega]
set_option maxRecDepth 100000 in
theorem open_ep {W : World} {base : Nat} {v : Value} {d : DataW H} {p : List MemPlace} (hv : Value.okWide Tryd.prog W .any base 24 v) (h : DataW.Trod enc Tryd.prog W 0 (fun _ => true) true 24 v d p) :
    ∃ e : Ep, e.ok ∧ v = .agg e.v := by
  obtain ⟨cs, rfl, hsz⟩ : ∃ cs : Array Value, v = .agg cs ∧ cs.size = 3 := by
    simp only [Value.okWide, Tryd.underlying24] at hv
    obtain ⟨cs, h1, h2, _⟩ := hv
    exact ⟨cs, h1, by rw [h2, cellsEp]⟩
  obtain ⟨l⟩ := cs
  match l, hsz with
  | [c0, c1, c2], _ =>
    obtain ⟨fuel, hf⟩ := h
    obtain ⟨e, ok, rfl, rfl, rfl⟩ := open_ep3 hf
    exact ⟨e, ok, rfl⟩
theorem cellsEp2 : Tryd.prog.cellsOf 25 = 6 := by kernel_rfl
set_option maxRecDepth 100000 in
theorem open_ep2 {W : World} {base : Nat} {v : Value} {d : DataW H} {p : List MemPlace} (hv : Value.okWide Tryd.prog W .any base 25 v) (h : DataW.Trod enc Tryd.prog W 0 (fun _ => true) true 25 v d p) :
    ∃ e f : Ep, e.ok ∧ f.ok ∧ v = .agg #[.int .u16 e.c, .int .u8 e.a, .int .u16 e.i, .int .u16 f.c, .int .u8 f.a, .int .u16 f.i] := by
  obtain ⟨cs, rfl, hsz⟩ : ∃ cs : Array Value, v = .agg cs ∧ cs.size = 6 := by
    simp only [Value.okWide, Tryd.underlying25] at hv
    obtain ⟨cs, h1, h2, _⟩ := hv
    exact ⟨cs, h1, by rw [h2, cellsEp2]⟩
  obtain ⟨l⟩ := cs
  match l, hsz with
  | [c0, c1, c2, c3, c4, c5], _ =>
    obtain ⟨fuel, hf⟩ := h
    obtain ⟨xs, m, _, _, _, hxl, hi⟩ := DataW.trod_array Tryd.underlying25 hf
    match xs, hxl with
    | [y0, y1], _ =>
      have t0 := hi 0 (by decide)
      have t1 := hi 1 (by decide)
      rw [cellsEp] at t0 t1
      obtain ⟨e, oe, rfl, rfl, rfl⟩ := open_ep3 t0
      obtain ⟨f, of, rfl, rfl, rfl⟩ := open_ep3 t1
      exact ⟨e, f, oe, of, rfl⟩
end
end Go.Proofs.YtjmdkhjfjlodmaaDoor
