/- Frames of law 18's Came that came in, opened. -/
import Derived.Test.YtdmohidkighajaaGn
import Derived.Test.YtdmohidkighajaaOf
namespace Go.Proofs.Ytdmohidkighajaa
open Go.ChangeShapes Go.WideShapes Go.ChangeAt Go.RowKit Go.WideMaps Go.WideElems Go.Deep
set_option linter.unusedVariables false
set_option linter.unusedSimpArgs false

theorem spot_none18 {w : World} {a : Addr} {v : Value} (h : w.cell? a = some v) : a = ⟨a.block, a.off, none⟩ := by
  obtain ⟨b, o, s⟩ := a
  unfold World.cell? at h
  split at h
  · cases s
    · rfl
    · simp at h
  · cases h
theorem cellsC18 : Try.prog.cellsOf 52 = 19 := by kernel_rfl

section
variable {H : Type} {enc : TypeId × Value → H}
set_option maxRecDepth 100000 in
theorem open_cames18 {W : World} {base : Nat} {v : Value} {d : DataW H} {p : List MemPlace} (hv : Value.okWide Try.prog W .any base 48 v) (h : DataW.Trod enc Try.prog W 0 (fun _ => true) true 48 v d p) :
    ∃ (A : Option Addr) (n c : Nat), v = .slice A n c ∧ FrsIn2 W A n := by
  obtain ⟨A, n, c, rfl⟩ := okWide_slice Try.underlying48 hv
  obtain ⟨fuel, hf⟩ := h
  refine ⟨A, n, c, rfl, ?_⟩
  rcases open_slice Try.underlying48 hf with ⟨hcs, _⟩ | ⟨a, len, cap, m, n', D, Pl, hcs, _, hl, _, hm, _, hi⟩
  · simp [Value.cells] at hcs
    obtain ⟨_, rfl, _⟩ := hcs
    exact fun i hi => absurd hi (by omega)
  · simp [Value.cells] at hcs
    obtain ⟨rfl, rfl, rfl⟩ := hcs
    simp only [if_true] at hm
    have key : ∀ i, i < n → ∃ f : Fr, FrB f ∧ ∀ j u, (frV f).toList[j]? = some u → W.cell? ((a.add (i * 19)).add j) = some u := by
      intro i hin
      obtain ⟨cs', hc, ht'⟩ := hi i (by omega)
      rw [cellsC18] at hc
      obtain ⟨_, hcl, hat⟩ := World.cells?_some hc
      obtain ⟨xs, n2, e2, _, hl2, hxl, hf2⟩ := DataW.trod_struct Try.underlying52 ht'
      match xs, hxl with
      | [y0], _ =>
      have t0 := hf2 0 _ rfl
      obtain ⟨f, e, hb⟩ := open_fr t0
      have e' : cs' = (frV f).toList := by
        have e2 : List.take (Try.prog.cellsOf 36) (List.drop 0 cs') = (frV f).toList := e
        rw [cellsF, List.drop_zero, List.take_of_length_le (by omega)] at e2
        exact e2
      subst e'
      refine ⟨f, hb, fun j u hj => ?_⟩
      have hlt := (List.getElem?_eq_some_iff.1 hj).1
      have := hat j (by rw [frV_len] at hlt; exact hlt)
      rw [this, hj]
    intro i hin
    obtain ⟨f0, _, h0⟩ := key 0 (by omega)
    have c0 := h0 0 _ rfl
    have e0 : (a.add (0 * 19)).add 0 = a := by simp [Addr.add]
    rw [e0] at c0
    have ea := spot_none18 c0
    have hb := World.block_lt_of_cell? _ _ c0
    obtain ⟨f, hf, hr⟩ := key i hin
    rw [ea] at hr
    refine ⟨a.block, a.off, f, by rw [← ea], hb, fun j u hj => ?_, ⟨hf.part, hf.parts, hf.vi, hf.vs⟩⟩
    have := hr j u hj
    rw [Addr.add_mid, Addr.add_mid] at this
    exact this
end

theorem gsubs_key (size : Int) (first : ByteArray) (A : Option Addr) (nl cl : Nat) (w : World) (hF : FrsIn2 w A nl) :
    Calls Try.prog 4 #[.int .i64 size, .string first, .slice A nl cl] w fun e w' => e = .returned (.bool true) ∧ Below w.heap.size w w' := by
  by_cases h : 100 < first.size ∨ 80 < nl
  · exact gsubs_long size first A nl cl w h
  · by_cases hs : 1 ≤ size ∧ size ≤ 64
    · obtain ⟨n, rfl⟩ : ∃ n : Nat, size = n := ⟨size.toNat, by omega⟩
      exact gsubs_any n first (by omega) (by omega) A nl cl w (by omega) (by omega) hF
    · exact gsubs_bad size first hs A nl cl w (by omega) (by omega)
end Go.Proofs.Ytdmohidkighajaa
