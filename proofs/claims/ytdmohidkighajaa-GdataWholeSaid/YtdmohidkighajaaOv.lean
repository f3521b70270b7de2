/- Turns that came in, opened; GdataWhole whatever its arguments. -/
import Derived.Test.YtdmohidkighajaaVw
import Derived.Test.YtdmohidkighajaaOi
import Derived.Test.YtdmohidkighajaaOh
namespace Go.Proofs.Ytdmohidkighajaa
open Go.ChangeShapes Go.WideShapes Go.ChangeAt Go.RowKit Go.WideMaps Go.WideElems Go.Deep
set_option linter.unusedVariables false
set_option linter.unusedSimpArgs false

section
variable {H : Type} {enc : TypeId × Value → H} {P : Program} {w : World} {base : Nat} {spare : Nat → Bool} {held : Bool}
theorem open_slice_fields3 {t e : TypeId} {fs : Array Field} {fuel : Nat} {cs : List Value} {x : DataW H × List MemPlace} (ht : P.underlying t = some (.slice e)) (he : P.underlying e = some (.struct fs))
    (hone : oneCellFields P fs = true) (hC : P.cellsOf e = fs.size) (h : DataW.trod enc P w base spare held fuel t cs = some x) :
    (cs = [.slice none 0 0] ∧ x = (.nil, [])) ∨
    ∃ (a : Addr) (len cap m : Nat) (D : Nat → DataW H) (Pl : Nat → List MemPlace), cs = [.slice (some a) len cap] ∧ base ≤ a.block ∧ len ≤ cap ∧ cap ≤ maxLen ∧ m = (if spare a.block then cap else len) ∧
      x = (.slice ((List.range len).map D) ((List.range (m - len)).map fun j => D (len + j)), MemPlace.row a (m * fs.size) ++ (List.range m).flatMap Pl) ∧
      ∀ i, i < m → ∃ (ys : List (DataW H × List MemPlace)) (n : Nat), D i = .agg (ys.map (·.1)) ∧ Pl i = ys.flatMap (·.2) ∧ ys.length = fs.size ∧
        ∀ (j : Nat) (f : Field), fs[j]? = some f → ∃ (v : Value) (y : DataW H × List MemPlace), w.cell? (a.add (i * fs.size + j)) = some v ∧ ys[j]? = some y ∧ DataW.trod enc P w base spare held n f.type [v] = some y := by
  rcases open_slice ht h with h0 | ⟨a, len, cap, m, n, D, Pl, hcs, hb, hl, hm, hmm, hx, hi⟩
  · exact .inl h0
  · refine .inr ⟨a, len, cap, m, D, Pl, hcs, hb, hl, hm, hmm, by rw [hC] at hx; exact hx, fun i him => ?_⟩
    obtain ⟨cs', hc, ht'⟩ := hi i him
    rw [hC] at hc
    obtain ⟨ys, n', hn', hy, hlen, hyl, hf⟩ := DataW.trod_struct he ht'
    obtain ⟨_, hcl, hat⟩ := World.cells?_some hc
    simp only [Prod.mk.injEq] at hy
    refine ⟨ys, n', hy.1, hy.2, hyl, fun j f hj => ?_⟩
    obtain ⟨ho, hk⟩ := hone_of hone j f hj
    have hjl : j < fs.size := (Array.getElem?_eq_some_iff.1 hj).1
    have hcell := hat j hjl
    have hv : cs'[j]? = some (cs'[j]'(by omega)) := List.getElem?_eq_getElem (by omega)
    have h1 := hf j f hj
    rw [ho, hk] at h1
    have hone' : (cs'.drop j).take 1 = [cs'[j]'(by omega)] := by
      rw [List.drop_eq_getElem_cons (by omega)]
      rfl
    rw [hone'] at h1
    have hys : ys[j]? = some (ys[j]'(by omega)) := List.getElem?_eq_getElem (by omega)
    refine ⟨_, _, ?_, hys, h1.trans hys⟩
    rw [← Go.Deep.add_add, hcell, hv]
end


section
variable {H : Type} {enc : TypeId × Value → H}
set_option maxRecDepth 100000 in
theorem open_turns18 {W : World} {base : Nat} {v : Value} {d : DataW H} {p : List MemPlace} (hv : Value.okWide Try.prog W .any base 62 v) (h : DataW.Trod enc Try.prog W 0 (fun _ => true) true 62 v d p) :
    ∃ (A : Option Addr) (n c : Nat), v = .slice A n c ∧ TurnsIn W A n := by
  obtain ⟨A, n, c, rfl⟩ := okWide_slice Try.underlying62 hv
  obtain ⟨fuel, hf⟩ := h
  refine ⟨A, n, c, rfl, ?_⟩
  rcases open_slice_fields3 Try.underlying62 Try.underlying66 (by kernel_rfl) (by kernel_rfl) hf with ⟨hcs, _⟩ | ⟨a, len, cap, m, D, Pl, hcs, _, hl, _, hm, _, hi⟩
  · simp [Value.cells] at hcs
    obtain ⟨_, rfl, _⟩ := hcs
    exact fun i hi => absurd hi (by omega)
  · simp [Value.cells] at hcs
    obtain ⟨rfl, rfl, rfl⟩ := hcs
    simp only [if_true] at hm
    have key : ∀ i, i < n → ∃ (q x : Int) (t : ByteArray), W.cell? (a.add (i * 3)) = some (.int .u8 q) ∧ W.cell? (a.add (i * 3 + 1)) = some (.int .u16 x) ∧ W.cell? (a.add (i * 3 + 2)) = some (.string t) ∧ (0 ≤ q ∧ q ≤ 255) ∧ (0 ≤ x ∧ x ≤ 65535) := by
      intro i hin
      obtain ⟨ys, k, _, _, _, hf⟩ := hi i (by omega)
      obtain ⟨v0, y0, c0, _, t0⟩ := hf 0 _ rfl
      obtain ⟨v1, y1, c1, _, t1⟩ := hf 1 _ rfl
      obtain ⟨v2, y2, c2, _, t2⟩ := hf 2 _ rfl
      obtain ⟨x, e0, _, w0⟩ := DataW.trod_int Try.underlying5 t0
      obtain ⟨y, e1, _, w1⟩ := DataW.trod_int Try.underlying27 t1
      obtain ⟨s, e2, _, _⟩ := DataW.trod_string Try.underlying9 t2
      simp at e0 e1 e2
      subst e0 e1 e2
      have bx := wf_bounds w0
      have by_ : 0 ≤ y ∧ y ≤ 65535 := wf_bounds w1
      exact ⟨x, y, s, c0, c1, c2, ⟨bx.1, bx.2⟩, by_⟩
    intro i hin
    obtain ⟨_, _, _, c0, _⟩ := key 0 (by omega)
    have e0 : a.add (0 * 3) = a := by simp [Addr.add]
    rw [e0] at c0
    have ea := spot_none18 c0
    have hb := World.block_lt_of_cell? _ _ c0
    obtain ⟨q, x, t, d0, d1, d2, hq, hx⟩ := key i hin
    rw [ea] at d0 d1 d2
    rw [Addr.add_mid] at d0 d1 d2
    refine ⟨a.block, a.off, q, x, t, by rw [← ea], hb, fun j u hj => ?_, hq, hx⟩
    match j, hj with
    | 0, hj => cases hj; exact d0
    | 1, hj => cases hj; exact d1
    | 2, hj => cases hj; exact d2
end

theorem gwhole_key (size : Int) (h0 : 0 ≤ size) (h1 : size ≤ 255) (first : ByteArray) (A : Option Addr) (nl cl : Nat) (w : World) (hT : TurnsIn w A nl) :
    Calls Try.prog 5 #[.int .u8 size, .string first, .slice A nl cl] w fun e w' => e = .returned (.bool true) ∧ Below w.heap.size w w' := by
  by_cases h : 100 < first.size ∨ 120 < nl
  · exact gwhole_long size h0 h1 first A nl cl w h
  · exact gwhole_any size h0 h1 first A nl cl w (by omega) (by omega) hT
end Go.Proofs.Ytdmohidkighajaa
