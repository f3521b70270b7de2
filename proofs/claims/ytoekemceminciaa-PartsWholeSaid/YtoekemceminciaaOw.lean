/- Strings, and parts by numbers, that came in, opened. -/
import Derived.Test.YtoekemceminciaaPw
import Derived.Test.YtoekemceminciaaOf
namespace Go.Proofs.Ytoekemceminciaa
open Go.ChangeShapes Go.WideShapes Go.ChangeAt Go.RowKit Go.WideMaps Go.WideElems Go.Deep
set_option linter.unusedVariables false
set_option linter.unusedSimpArgs false

section
variable {H : Type} {enc : TypeId × Value → H} {P : Program} {w : World} {base : Nat} {spare : Nat → Bool} {held : Bool}
theorem open_slice_fields2 {t e : TypeId} {fs : Array Field} {fuel : Nat} {cs : List Value} {x : DataW H × List MemPlace} (ht : P.underlying t = some (.slice e)) (he : P.underlying e = some (.struct fs))
    (hone : oneCellFields P fs = true) (hC : P.cellsOf e = fs.size) (h : DataW.trod enc P w base spare held fuel t cs = some x) :
    (cs = [.slice none 0 0] ∧ x = (.nil, [])) ∨
    ∃ (a : Addr) (len cap m : Nat) (D : Nat → DataW H) (Pl : Nat → List MemPlace), cs = [.slice (some a) len cap] ∧ base ≤ a.block ∧ len ≤ cap ∧ cap ≤ maxLen ∧ m = (if spare a.block then cap else len) ∧
      x = (.slice ((List.range len).map D) ((List.range (m - len)).map fun j => D (len + j)), MemPlace.row a (m * fs.size) ++ (List.range m).flatMap Pl) ∧
      ∀ i, i < m → ∃ (ys : List (DataW H × List MemPlace)) (n : Nat), D i = .agg (ys.map (·.1)) ∧ Pl i = ys.flatMap (·.2) ∧ ys.length = fs.size ∧
        ∀ (j : Nat) (f : Field), fs[j]? = some f → ∃ (v : Value) (y : DataW H × List MemPlace), w.cell? (a.add (i * fs.size + j)) = some v ∧ ys[j]? = some y ∧ DataW.trod enc P w base spare held n f.type [v] = some y := by
  rcases open_slice ht h with h0 | ⟨a, len, cap, m, n, D, Pl, hcs, hb, hl, hm, hmm, hx, hi⟩
  · exact .inl h0
  · refine .inr ⟨a, len, cap, m, D, Pl, hcs, hb, hl, hm, hmm, by rw [hC] at hx; exact hx, fun i him => ?_⟩
    obtain ⟨cs', hc, ht'⟩ := hi i him
    rw [hC] at hc
    obtain ⟨ys, n', hn', hy, hlen, hyl, hf⟩ := DataW.trod_struct he ht'
    obtain ⟨_, hcl, hat⟩ := World.cells?_some hc
    simp only [Prod.mk.injEq] at hy
    refine ⟨ys, n', hy.1, hy.2, hyl, fun j f hj => ?_⟩
    obtain ⟨ho, hk⟩ := hone_of hone j f hj
    have hjl : j < fs.size := (Array.getElem?_eq_some_iff.1 hj).1
    have hcell := hat j hjl
    have hv : cs'[j]? = some (cs'[j]'(by omega)) := List.getElem?_eq_getElem (by omega)
    have h1 := hf j f hj
    rw [ho, hk] at h1
    have hone' : (cs'.drop j).take 1 = [cs'[j]'(by omega)] := by
      rw [List.drop_eq_getElem_cons (by omega)]
      rfl
    rw [hone'] at h1
    have hys : ys[j]? = some (ys[j]'(by omega)) := List.getElem?_eq_getElem (by omega)
    refine ⟨_, _, ?_, hys, h1.trans hys⟩
    rw [← Go.Deep.add_add, hcell, hv]
end


section
variable {H : Type} {enc : TypeId × Value → H}
theorem open_strs {W : World} {base : Nat} {v : Value} {d : DataW H} {p : List MemPlace} (hv : Value.okWide Try.prog W .any base 60 v) (h : DataW.Trod enc Try.prog W 0 (fun _ => true) true 60 v d p) :
    ∃ (A : Option Addr) (n c : Nat) (vals : Nat → ByteArray), v = .slice A n c ∧ Strs W A n vals := by
  obtain ⟨A, n, c, rfl⟩ := okWide_slice Try.underlying60 hv
  obtain ⟨fuel, hf⟩ := h
  have key : ∀ i, ∃ s : ByteArray, i < n → ∃ a : Addr, A = some a ∧ a.block < W.heap.size ∧ W.cell? (a.add i) = some (.string s) := by
    rcases open_slice Try.underlying60 hf with ⟨hcs, _⟩ | ⟨a, len, cap, m, n', D, Pl, hcs, _, hl, _, hm, _, hi⟩
    · simp [Value.cells] at hcs
      obtain ⟨_, rfl, _⟩ := hcs
      exact fun i => ⟨⟨#[]⟩, fun hi => absurd hi (by omega)⟩
    · simp [Value.cells] at hcs
      obtain ⟨rfl, rfl, rfl⟩ := hcs
      intro i
      by_cases hin : i < n
      · simp only [if_true] at hm
        obtain ⟨cs', hc, ht'⟩ := hi i (by omega)
        rw [cells_string] at hc
        obtain ⟨_, hcl, hat⟩ := World.cells?_some hc
        obtain ⟨x, e, _, hw⟩ := DataW.trod_string Try.underlying9 ht'
        subst e
        have h0 := hat 0 (by omega)
        have hblk := World.block_lt_of_cell? _ _ h0
        simp only [Go.Deep.add_add, Nat.add_zero, Nat.mul_one] at h0 hblk
        rw [block_add] at hblk
        exact ⟨x, fun _ => ⟨a, rfl, hblk, h0⟩⟩
      · exact ⟨⟨#[]⟩, fun hi => absurd hi hin⟩
  exact ⟨A, n, c, fun i => Classical.choose (key i), rfl, fun i hi => Classical.choose_spec (key i) hi⟩

theorem cells_came : Try.prog.cellsOf 64 = 2 := by kernel_rfl
theorem open_cames {W : World} {base : Nat} {v : Value} {d : DataW H} {p : List MemPlace} (hv : Value.okWide Try.prog W .any base 61 v) (h : DataW.Trod enc Try.prog W 0 (fun _ => true) true 61 v d p) :
    ∃ (A : Option Addr) (n c : Nat), v = .slice A n c ∧ Cames W A n := by
  obtain ⟨A, n, c, rfl⟩ := okWide_slice Try.underlying61 hv
  obtain ⟨fuel, hf⟩ := h
  refine ⟨A, n, c, rfl, ?_⟩
  rcases open_slice_fields2 Try.underlying61 Try.underlying64 (by kernel_rfl) (by kernel_rfl) hf with ⟨hcs, _⟩ | ⟨a, len, cap, m, D, Pl, hcs, _, hl, _, hm, _, hi⟩
  · simp [Value.cells] at hcs
    obtain ⟨_, rfl, _⟩ := hcs
    exact fun i hi => absurd hi (by omega)
  · simp [Value.cells] at hcs
    obtain ⟨rfl, rfl, rfl⟩ := hcs
    intro i hin
    simp only [if_true] at hm
    obtain ⟨ys, k, _, _, _, hf⟩ := hi i (by omega)
    obtain ⟨v0, y0, c0, _, t0⟩ := hf 0 _ rfl
    obtain ⟨v1, y1, c1, _, t1⟩ := hf 1 _ rfl
    obtain ⟨x, e0, _, w0⟩ := DataW.trod_int Try.underlying5 t0
    obtain ⟨y, e1, _, w1⟩ := DataW.trod_int Try.underlying5 t1
    simp at e0 e1
    subst e0 e1
    have hblk := World.block_lt_of_cell? _ _ c0
    have c0 : W.cell? (a.add (i * 2)) = some (.int .u8 x) := c0
    have c1 : W.cell? (a.add (i * 2 + 1)) = some (.int .u8 y) := c1
    rw [add_field _ _ _ (by omega)] at c1
    rw [block_add] at hblk
    have bx := wf_bounds w0
    have by_ := wf_bounds w1
    exact ⟨a, x, y, rfl, hblk, bx.1, bx.2, by_.1, by_.2, c0, c1⟩
end
end Go.Proofs.Ytoekemceminciaa
