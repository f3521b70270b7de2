/- A Frame that came in, opened (written by tools/gen_openfr.py). -/
import Derived.Test.YtdmohidkighajaaPs
import Derived.ProofKit
import Derived.OpenShut
import Derived.SizedLaws
import Derived.Deep.Slices
import Derived.Deep.Fields
import Derived.ChangeSame
namespace Go.Proofs.Ytdmohidkighajaa
open Go.ChangeShapes Go.WideShapes Go.ChangeAt Go.RowKit Go.WideMaps Go.WideElems Go.Deep
set_option linter.unusedVariables false
set_option linter.unusedSimpArgs false

theorem cellsV : Try.prog.cellsOf 34 = 2 := by kernel_rfl
theorem cellsE : Try.prog.cellsOf 31 = 3 := by kernel_rfl
theorem cellsF : Try.prog.cellsOf 36 = 19 := by kernel_rfl
theorem cells_int : Try.prog.cellsOf 3 = 1 := by kernel_rfl
theorem cells_u8 : Try.prog.cellsOf 5 = 1 := by kernel_rfl
theorem cells_u16 : Try.prog.cellsOf 27 = 1 := by kernel_rfl
theorem cells_u32 : Try.prog.cellsOf 32 = 1 := by kernel_rfl
theorem cells_bool : Try.prog.cellsOf 4 = 1 := by kernel_rfl
theorem cells_string : Try.prog.cellsOf 9 = 1 := by kernel_rfl

/-- The bounds of a Frame's numbers. -/
structure FrB (f : Fr) : Prop where
  part : 0 ≤ f.part ∧ f.part ≤ 255
  parts : 0 ≤ f.parts ∧ f.parts ≤ 255
  vi : 0 ≤ f.vi ∧ f.vi ≤ 65535
  vs : 0 ≤ f.vs ∧ f.vs ≤ 4294967295
  kind : -9223372036854775808 ≤ f.kind ∧ f.kind ≤ 9223372036854775807
  bytes : f.bytes.size ≤ maxLen
theorem wf_bounds {k : IntKind} {n : Int} (h : (Lit.int k n).wf = true) : k.min ≤ n ∧ n ≤ k.max := by
  simpa [Lit.wf] using h

section
variable {H : Type} {enc : TypeId × Value → H} {w : World} {base : Nat} {spare : Nat → Bool} {held : Bool} {fuel : Nat} {x : DataW H × List MemPlace}
set_option maxRecDepth 20000 in
theorem open_fr {cs : List Value} (h : DataW.trod enc Try.prog w base spare held fuel 36 cs = some x) : ∃ f : Fr, cs = (frV f).toList ∧ FrB f := by
  obtain ⟨xs, n, rfl, _, hl, hxl, hf⟩ := DataW.trod_struct Try.underlying36 h
  rw [cellsF] at hl
  match cs, hl with
  | [c0, c1, c2, c3, c4, c5, c6, c7, c8, c9, c10, c11, c12, c13, c14, c15, c16, c17, c18], _ =>
    match xs, hxl with
    | [y0, y1, y2, y3, y4, y5, y6, y7, y8, y9, y10, y11, y12, y13], _ =>
    have t0 := hf 0 _ rfl
    obtain ⟨v0, e0, _, w0⟩ := DataW.trod_int Try.underlying3 t0
    simp [cells_int] at e0
    subst e0
    have t1 := hf 1 _ rfl
    obtain ⟨v1, e1, _, w1⟩ := DataW.trod_int Try.underlying5 t1
    simp [cells_u8] at e1
    subst e1
    have t2 := hf 2 _ rfl
    obtain ⟨v2, e2, _, w2⟩ := DataW.trod_int Try.underlying5 t2
    simp [cells_u8] at e2
    subst e2
    have t3 := hf 3 _ rfl
    obtain ⟨v3, e3, _, w3⟩ := DataW.trod_int Try.underlying27 t3
    simp [cells_u16] at e3
    subst e3
    have t4 := hf 4 _ rfl
    obtain ⟨v4, e4, _, w4⟩ := DataW.trod_int Try.underlying27 t4
    simp [cells_u16] at e4
    subst e4
    have t5 := hf 5 _ rfl
    obtain ⟨zs5, m5, _, _, hz5, hzl5, hg5⟩ := DataW.trod_struct Try.underlying31 t5
    match zs5, hzl5 with
    | [z5_0, z5_1, z5_2], _ =>
    have s5_0 := hg5 0 _ rfl
    simp [cellsE] at s5_0
    obtain ⟨v5, e5, _, w5⟩ := DataW.trod_int Try.underlying27 s5_0
    simp [cells_u16] at e5
    subst e5
    have s5_1 := hg5 1 _ rfl
    simp [cellsE] at s5_1
    obtain ⟨v6, e6, _, w6⟩ := DataW.trod_int Try.underlying5 s5_1
    simp [cells_u8] at e6
    subst e6
    have s5_2 := hg5 2 _ rfl
    simp [cellsE] at s5_2
    obtain ⟨v7, e7, _, w7⟩ := DataW.trod_int Try.underlying27 s5_2
    simp [cells_u16] at e7
    subst e7
    have t6 := hf 6 _ rfl
    obtain ⟨v8, e8, _, w8⟩ := DataW.trod_int Try.underlying27 t6
    simp [cells_u16] at e8
    subst e8
    have t7 := hf 7 _ rfl
    obtain ⟨zs7, m7, _, _, hz7, hzl7, hg7⟩ := DataW.trod_struct Try.underlying31 t7
    match zs7, hzl7 with
    | [z7_0, z7_1, z7_2], _ =>
    have s7_0 := hg7 0 _ rfl
    simp [cellsE] at s7_0
    obtain ⟨v9, e9, _, w9⟩ := DataW.trod_int Try.underlying27 s7_0
    simp [cells_u16] at e9
    subst e9
    have s7_1 := hg7 1 _ rfl
    simp [cellsE] at s7_1
    obtain ⟨v10, e10, _, w10⟩ := DataW.trod_int Try.underlying5 s7_1
    simp [cells_u8] at e10
    subst e10
    have s7_2 := hg7 2 _ rfl
    simp [cellsE] at s7_2
    obtain ⟨v11, e11, _, w11⟩ := DataW.trod_int Try.underlying27 s7_2
    simp [cells_u16] at e11
    subst e11
    have t8 := hf 8 _ rfl
    obtain ⟨v12, e12, _⟩ := DataW.trod_bool Try.underlying4 t8
    simp [cells_bool] at e12
    subst e12
    have t9 := hf 9 _ rfl
    obtain ⟨v13, e13, _, w13⟩ := DataW.trod_int Try.underlying5 t9
    simp [cells_u8] at e13
    subst e13
    have t10 := hf 10 _ rfl
    obtain ⟨zs10, m10, _, _, hz10, hzl10, hg10⟩ := DataW.trod_struct Try.underlying34 t10
    match zs10, hzl10 with
    | [z10_0, z10_1], _ =>
    have s10_0 := hg10 0 _ rfl
    simp [cellsV] at s10_0
    obtain ⟨v14, e14, _, w14⟩ := DataW.trod_int Try.underlying27 s10_0
    simp [cells_u16] at e14
    subst e14
    have s10_1 := hg10 1 _ rfl
    simp [cellsV] at s10_1
    obtain ⟨v15, e15, _, w15⟩ := DataW.trod_int Try.underlying32 s10_1
    simp [cells_u32] at e15
    subst e15
    have t11 := hf 11 _ rfl
    obtain ⟨v16, e16, _, w16⟩ := DataW.trod_int Try.underlying5 t11
    simp [cells_u8] at e16
    subst e16
    have t12 := hf 12 _ rfl
    obtain ⟨v17, e17, _, w17⟩ := DataW.trod_int Try.underlying5 t12
    simp [cells_u8] at e17
    subst e17
    have t13 := hf 13 _ rfl
    obtain ⟨v18, e18, _, w18⟩ := DataW.trod_string Try.underlying9 t13
    simp [cells_string] at e18
    subst e18
    have b14 := wf_bounds w14
    have b15 := wf_bounds w15
    have b16 := wf_bounds w16
    have b17 := wf_bounds w17
    have b0 := wf_bounds w0
    exact ⟨⟨v0, v1, v2, v3, v4, v5, v6, v7, v8, v9, v10, v11, v12, v13, v14, v15, v16, v17, v18⟩, rfl, b16, b17, b14, b15, b0, w18⟩

set_option maxRecDepth 100000 in
theorem open_frame {W : World} {base : Nat} {v : Value} {d : DataW H} {p : List MemPlace} (hv : Value.okWide Try.prog W .any base 36 v) (h : DataW.Trod enc Try.prog W 0 (fun _ => true) true 36 v d p) : ∃ f : Fr, v = .agg (frV f) ∧ FrB f := by
  obtain ⟨cs, rfl, hsz⟩ : ∃ cs : Array Value, v = .agg cs ∧ cs.size = 19 := by
    simp only [Value.okWide, Try.underlying36] at hv
    obtain ⟨cs, h1, h2, _⟩ := hv
    exact ⟨cs, h1, by rw [h2, cellsF]⟩
  obtain ⟨fuel, hf⟩ := h
  obtain ⟨f, e, b⟩ := open_fr hf
  exact ⟨f, by rw [← Array.toArray_toList (xs := cs)]; simp only [Value.cells] at e; rw [e], b⟩

set_option maxRecDepth 100000 in
theorem open_turns {W : World} {base : Nat} {v : Value} {d : DataW H} {p : List MemPlace} (hv : Value.okWide Try.prog W .any base 23 v) (h : DataW.Trod enc Try.prog W 0 (fun _ => true) true 23 v d p) :
    ∃ (A : Option Addr) (n c : Nat), v = .slice A n c ∧ Turns W A n := by
  obtain ⟨A, n, c, rfl⟩ := okWide_slice Try.underlying23 hv
  obtain ⟨fuel, hf⟩ := h
  refine ⟨A, n, c, rfl, ?_⟩
  rcases open_slice Try.underlying23 hf with ⟨hcs, _⟩ | ⟨a, len, cap, m, n', D, Pl, hcs, _, hl, _, hm, _, hi⟩
  · simp [Value.cells] at hcs
    obtain ⟨_, rfl, _⟩ := hcs
    exact fun i hi => absurd hi (by omega)
  · simp [Value.cells] at hcs
    obtain ⟨rfl, rfl, rfl⟩ := hcs
    intro i hin
    simp only [if_true] at hm
    obtain ⟨cs', hc, ht'⟩ := hi i (by omega)
    rw [cells_u8] at hc
    obtain ⟨_, hcl, hat⟩ := World.cells?_some hc
    obtain ⟨x, e, _, hw⟩ := DataW.trod_int Try.underlying5 ht'
    subst e
    have h0 := hat 0 (by omega)
    have hb := wf_bounds hw
    have hblk := World.block_lt_of_cell? _ _ h0
    simp only [Go.Deep.add_add, Nat.add_zero, Nat.mul_one] at h0 hblk
    rw [block_add] at hblk
    exact ⟨a, x, rfl, hblk, hb.1, hb.2, h0⟩
end
end Go.Proofs.Ytdmohidkighajaa
