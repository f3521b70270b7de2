/- RetainRuns: what came in, opened. -/
import Derived.Test.YtocbaapnajdcfaaDoorKr
import Derived.Test.YtocbaapnajdcfaaDoorOt
namespace Go.Proofs.YtocbaapnajdcfaaDoor
open Go.ChangeShapes Go.WideShapes Go.ChangeAt Go.RowKit Go.WideMaps Go.WideElems Go.Deep
set_option linter.unusedVariables false
set_option linter.unusedSimpArgs false
section
variable {H : Type} {enc : TypeId × Value → H} {P : Program} {w : World} {base : Nat} {spare : Nat → Bool} {held : Bool}
theorem open_slice_fields2 {t e : TypeId} {fs : Array Field} {fuel : Nat} {cs : List Value} {x : DataW H × List MemPlace} (ht : P.underlying t = some (.slice e)) (he : P.underlying e = some (.struct fs))
    (hone : oneCellFields P fs = true) (hC : P.cellsOf e = fs.size) (h : DataW.trod enc P w base spare held fuel t cs = some x) :
    (cs = [.slice none 0 0] ∧ x = (.nil, [])) ∨
    ∃ (a : Addr) (len cap m : Nat) (D : Nat → DataW H) (Pl : Nat → List MemPlace), cs = [.slice (some a) len cap] ∧ base ≤ a.block ∧ len ≤ cap ∧ cap ≤ maxLen ∧ m = (if spare a.block then cap else len) ∧
      x = (.slice ((List.range len).map D) ((List.range (m - len)).map fun j => D (len + j)), MemPlace.row a (m * fs.size) ++ (List.range m).flatMap Pl) ∧
      ∀ i, i < m → ∃ (ys : List (DataW H × List MemPlace)) (n : Nat), D i = .agg (ys.map (·.1)) ∧ Pl i = ys.flatMap (·.2) ∧ ys.length = fs.size ∧
        ∀ (j : Nat) (f : Field), fs[j]? = some f → ∃ (v : Value) (y : DataW H × List MemPlace), w.cell? (a.add (i * fs.size + j)) = some v ∧ ys[j]? = some y ∧ DataW.trod enc P w base spare held n f.type [v] = some y := by
  rcases open_slice ht h with h0 | ⟨a, len, cap, m, n, D, Pl, hcs, hb, hl, hm, hmm, hx, hi⟩
  · exact .inl h0
  · refine .inr ⟨a, len, cap, m, D, Pl, hcs, hb, hl, hm, hmm, by rw [hC] at hx; exact hx, fun i him => ?_⟩
    obtain ⟨cs', hc, ht'⟩ := hi i him
    rw [hC] at hc
    obtain ⟨ys, n', hn', hy, hlen, hyl, hf⟩ := DataW.trod_struct he ht'
    obtain ⟨_, hcl, hat⟩ := World.cells?_some hc
    simp only [Prod.mk.injEq] at hy
    refine ⟨ys, n', hy.1, hy.2, hyl, fun j f hj => ?_⟩
    obtain ⟨ho, hk⟩ := hone_of hone j f hj
    have hjl : j < fs.size := (Array.getElem?_eq_some_iff.1 hj).1
    have hcell := hat j hjl
    have hv : cs'[j]? = some (cs'[j]'(by omega)) := List.getElem?_eq_getElem (by omega)
    have h1 := hf j f hj
    rw [ho, hk] at h1
    have hone' : (cs'.drop j).take 1 = [cs'[j]'(by omega)] := by
      rw [List.drop_eq_getElem_cons (by omega)]
      rfl
    rw [hone'] at h1
    have hys : ys[j]? = some (ys[j]'(by omega)) := List.getElem?_eq_getElem (by omega)
    refine ⟨_, _, ?_, hys, h1.trans hys⟩
    rw [← Go.Deep.add_add, hcell, hv]
end
theorem cells_act : Tryd.prog.cellsOf 47 = 4 := by kernel_rfl
section
variable {H : Type} {enc : TypeId × Value → H}
set_option maxRecDepth 100000 in
theorem open_acts {W : World} {base : Nat} {v : Value} {d : DataW H} {p : List MemPlace} (hv : Value.okWide Tryd.prog W .any base 45 v) (h : DataW.Trod enc Tryd.prog W 0 (fun _ => true) true 45 v d p) :
    ∃ (A : Option Addr) (n c : Nat), v = .slice A n c ∧ Acts W A n := by
  obtain ⟨A, n, c, rfl⟩ := okWide_slice Tryd.underlying45 hv
  obtain ⟨fuel, hf⟩ := h
  refine ⟨A, n, c, rfl, ?_⟩
  rcases open_slice_fields2 Tryd.underlying45 Tryd.underlying47 (by kernel_rfl) (by kernel_rfl) hf with ⟨hcs, _⟩ | ⟨a, len, cap, m, D, Pl, hcs, _, hl, _, hm, _, hi⟩
  · simp [Value.cells] at hcs
    obtain ⟨_, rfl, _⟩ := hcs
    exact fun i hi => absurd hi (by omega)
  · simp [Value.cells] at hcs
    obtain ⟨rfl, rfl, rfl⟩ := hcs
    intro i hin
    simp only [if_true] at hm
    obtain ⟨ys, k, _, _, _, hf⟩ := hi i (by omega)
    obtain ⟨v0, y0, c0, _, t0⟩ := hf 0 _ rfl
    obtain ⟨v1, y1, c1, _, t1⟩ := hf 1 _ rfl
    obtain ⟨v2, y2, c2, _, t2⟩ := hf 2 _ rfl
    obtain ⟨v3, y3, c3, _, t3⟩ := hf 3 _ rfl
    obtain ⟨x, e0, _, w0⟩ := DataW.trod_int Tryd.underlying5 t0
    obtain ⟨y, e1, _, w1⟩ := DataW.trod_int Tryd.underlying23 t1
    obtain ⟨z, e2, _, w2⟩ := DataW.trod_string Tryd.underlying9 t2
    obtain ⟨t, e3, _, w3⟩ := DataW.trod_int Tryd.underlying5 t3
    simp at e0 e1 e2 e3
    subst e0 e1 e2 e3
    have hblk := World.block_lt_of_cell? _ _ c0
    have c0 : W.cell? (a.add (i * 4)) = some (.int .u8 x) := c0
    have c1 : W.cell? (a.add (i * 4 + 1)) = some (.int .u16 y) := c1
    have c2 : W.cell? (a.add (i * 4 + 2)) = some (.string z) := c2
    have c3 : W.cell? (a.add (i * 4 + 3)) = some (.int .u8 t) := c3
    rw [add_field _ _ _ (by omega)] at c1 c2 c3
    rw [block_add] at hblk
    have b0 := wf_bounds2 w0
    have b1 := wf_bounds2 w1
    have b3 := wf_bounds2 w3
    have b0a : (0 : Int) ≤ x := b0.1
    have b0b : x ≤ 255 := b0.2
    have b1a : (0 : Int) ≤ y := b1.1
    have b1b : y ≤ 65535 := b1.2
    have b3a : (0 : Int) ≤ t := b3.1
    have b3b : t ≤ 255 := b3.2
    obtain ⟨x, rfl⟩ : ∃ m : Nat, x = m := ⟨x.toNat, by omega⟩
    obtain ⟨y, rfl⟩ : ∃ m : Nat, y = m := ⟨y.toNat, by omega⟩
    obtain ⟨t, rfl⟩ : ∃ m : Nat, t = m := ⟨t.toNat, by omega⟩
    exact ⟨a, x, y, t, z, rfl, hblk, by omega, by omega, by omega, c0, c1, c2, c3⟩
end

theorem runs_key (A : Option Addr) (nl cl : Nat) (s : ByteArray) (w : World) (hA : Acts w A nl) :
    Calls Tryd.prog 6 #[.string s, .slice A nl cl] w fun e w' => e = .returned (.bool true) ∧ Below w.heap.size w w' := by
  by_cases h : 400 < s.size ∨ 20 < nl
  · exact runs_long A nl cl s w h
  · exact runs_any A nl cl (by omega) s (by omega) w hA
end Go.Proofs.YtocbaapnajdcfaaDoor
