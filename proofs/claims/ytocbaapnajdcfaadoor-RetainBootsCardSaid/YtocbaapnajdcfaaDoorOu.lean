/- RetainBoots: what came in, opened. -/
import Derived.Test.YtocbaapnajdcfaaDoorLb
import Derived.Test.YtocbaapnajdcfaaDoorOt
namespace Go.Proofs.YtocbaapnajdcfaaDoor
open Go.ChangeShapes Go.WideShapes Go.ChangeAt Go.RowKit Go.WideMaps Go.WideElems Go.Deep
set_option linter.unusedVariables false
set_option linter.unusedSimpArgs false
section
variable {H : Type} {enc : TypeId × Value → H}
set_option maxRecDepth 100000 in
theorem open_turns {W : World} {base : Nat} {v : Value} {d : DataW H} {p : List MemPlace} (hv : Value.okWide Tryd.prog W .any base 28 v) (h : DataW.Trod enc Tryd.prog W 0 (fun _ => true) true 28 v d p) :
    ∃ (A : Option Addr) (n c : Nat), v = .slice A n c ∧ Turns W A n := by
  obtain ⟨A, n, c, rfl⟩ := okWide_slice Tryd.underlying28 hv
  obtain ⟨fuel, hf⟩ := h
  refine ⟨A, n, c, rfl, ?_⟩
  rcases open_slice Tryd.underlying28 hf with ⟨hcs, _⟩ | ⟨a, len, cap, m, n', D, Pl, hcs, _, hl, _, hm, _, hi⟩
  · simp [Value.cells] at hcs
    obtain ⟨_, rfl, _⟩ := hcs
    exact fun i hi => absurd hi (by omega)
  · simp [Value.cells] at hcs
    obtain ⟨rfl, rfl, rfl⟩ := hcs
    intro i hin
    simp only [if_true] at hm
    obtain ⟨cs', hc, ht'⟩ := hi i (by omega)
    rw [cells1_u8] at hc
    obtain ⟨_, hcl, hat⟩ := World.cells?_some hc
    obtain ⟨x, e, _, hw⟩ := DataW.trod_int Tryd.underlying5 ht'
    subst e
    have h0 := hat 0 (by omega)
    have hb := wf_bounds2 hw
    have hblk := World.block_lt_of_cell? _ _ h0
    simp only [Go.Deep.add_add, Nat.add_zero, Nat.mul_one] at h0 hblk
    rw [block_add] at hblk
    exact ⟨a, x, rfl, hblk, hb.1, hb.2, h0⟩
end

theorem boots_key (A : Option Addr) (nt ct : Nat) (s : ByteArray) (w : World) (hT : Turns w A nt) :
    Calls Tryd.prog 5 #[.string s, .slice A nt ct] w fun e w' => e = .returned (.bool true) ∧ Below w.heap.size w w' := by
  by_cases h : 64 < s.size ∨ 30 < nt
  · exact boots_long A nt ct s w h
  · have := boots_any A nt ct (by omega) s.data.toList (by rw [size_data]; omega) w hT
    rw [ofL_of] at this
    exact this
end Go.Proofs.YtocbaapnajdcfaaDoor
