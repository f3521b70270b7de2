/- RetainTears: what came in, opened. -/
import Derived.Test.YtocbaapnajdcfaaDoorLt
import Derived.Test.YtocbaapnajdcfaaDoorOq
namespace Go.Proofs.YtocbaapnajdcfaaDoor
open Go.ChangeShapes Go.WideShapes Go.ChangeAt Go.RowKit Go.WideMaps Go.WideElems Go.Deep
set_option linter.unusedVariables false
set_option linter.unusedSimpArgs false
section
variable {H : Type} {enc : TypeId × Value → H}
set_option maxRecDepth 100000 in
theorem open_str {W : World} {base : Nat} {v : Value} {d : DataW H} {p : List MemPlace} (hv : Value.okWide Tryd.prog W .any base 9 v) (h : DataW.Trod enc Tryd.prog W 0 (fun _ => true) true 9 v d p) :
    ∃ s : ByteArray, v = .string s := by
  obtain ⟨s, rfl⟩ := okWide_string Tryd.underlying9 hv
  exact ⟨s, rfl⟩
set_option maxRecDepth 100000 in
theorem open_strsIn {W : World} {base : Nat} {v : Value} {d : DataW H} {p : List MemPlace} (hv : Value.okWide Tryd.prog W .any base 39 v) (h : DataW.Trod enc Tryd.prog W 0 (fun _ => true) true 39 v d p) :
    ∃ (A : Option Addr) (n c : Nat), v = .slice A n c ∧ StrsIn W A n := by
  obtain ⟨A, n, c, rfl⟩ := okWide_slice Tryd.underlying39 hv
  obtain ⟨fuel, hf⟩ := h
  refine ⟨A, n, c, rfl, ?_⟩
  rcases open_slice Tryd.underlying39 hf with ⟨hcs, _⟩ | ⟨a, len, cap, m, n', D, Pl, hcs, _, hl, _, hm, _, hi⟩
  · simp [Value.cells] at hcs
    obtain ⟨_, rfl, _⟩ := hcs
    exact fun i hi => absurd hi (by omega)
  · simp [Value.cells] at hcs
    obtain ⟨rfl, rfl, rfl⟩ := hcs
    intro i hin
    simp only [if_true] at hm
    obtain ⟨cs', hc, ht'⟩ := hi i (by omega)
    rw [cells1_string] at hc
    obtain ⟨_, hcl, hat⟩ := World.cells?_some hc
    obtain ⟨x, e, _, hw⟩ := DataW.trod_string Tryd.underlying9 ht'
    subst e
    have h0 := hat 0 (by omega)
    have hblk := World.block_lt_of_cell? _ _ h0
    simp only [Go.Deep.add_add, Nat.add_zero, Nat.mul_one] at h0 hblk
    rw [block_add] at hblk
    exact ⟨a, x, rfl, hblk, h0⟩
end

theorem tears_key (A : Option Addr) (nl cl : Nat) (s : ByteArray) (n : Nat) (hn : n ≤ 255) (w : World) (hS : StrsIn w A nl) :
    Calls Tryd.prog 4 #[.slice A nl cl, .string s, .int .u8 n] w fun e w' => e = .returned (.bool true) ∧ Below w.heap.size w w' := by
  by_cases h : 8 < nl ∨ 64 < s.size
  · exact tears_long A nl cl s n w h
  · have := tears_any A nl cl (by omega) s.data.toList (by rw [size_data]; omega) n hn w hS
    rw [ofL_of] at this
    exact this
end Go.Proofs.YtocbaapnajdcfaaDoor
