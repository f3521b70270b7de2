/- Frames that came in by a slice, opened. -/
import Derived.Test.YtoekemceminciaaPx
namespace Go.Proofs.Ytoekemceminciaa
open Go.ChangeShapes Go.WideShapes Go.ChangeAt Go.RowKit Go.WideMaps Go.WideElems Go.Deep
set_option linter.unusedVariables false
set_option linter.unusedSimpArgs false

theorem spot_none {w : World} {a : Addr} {v : Value} (h : w.cell? a = some v) : a = ⟨a.block, a.off, none⟩ := by
  obtain ⟨b, o, s⟩ := a
  unfold World.cell? at h
  split at h
  · cases s
    · rfl
    · simp at h
  · cases h

section
variable {H : Type} {enc : TypeId × Value → H}
theorem open_frs {W : World} {base : Nat} {v : Value} {d : DataW H} {p : List MemPlace} (hv : Value.okWide Try.prog W .any base 53 v) (h : DataW.Trod enc Try.prog W 0 (fun _ => true) true 53 v d p) :
    ∃ (A : Option Addr) (n c : Nat), v = .slice A n c ∧ FrsIn W A n := by
  obtain ⟨A, n, c, rfl⟩ := okWide_slice Try.underlying53 hv
  obtain ⟨fuel, hf⟩ := h
  refine ⟨A, n, c, rfl, ?_⟩
  rcases open_slice Try.underlying53 hf with ⟨hcs, _⟩ | ⟨a, len, cap, m, n', D, Pl, hcs, _, hl, _, hm, _, hi⟩
  · simp [Value.cells] at hcs
    obtain ⟨_, rfl, _⟩ := hcs
    exact fun i hi => absurd hi (by omega)
  · simp [Value.cells] at hcs
    obtain ⟨rfl, rfl, rfl⟩ := hcs
    simp only [if_true] at hm
    have key : ∀ i, i < n → ∃ f : Fr, FrB f ∧ ∀ j u, (frV f).toList[j]? = some u → W.cell? ((a.add (i * 19)).add j) = some u := by
      intro i hin
      obtain ⟨cs', hc, ht'⟩ := hi i (by omega)
      rw [cellsF] at hc
      obtain ⟨f, e, hb⟩ := open_fr ht'
      subst e
      obtain ⟨_, hcl, hat⟩ := World.cells?_some hc
      refine ⟨f, hb, fun j u hj => ?_⟩
      have hlt := (List.getElem?_eq_some_iff.1 hj).1
      have := hat j (by rw [frV_len] at hlt; exact hlt)
      rw [this, hj]
    intro i hin
    obtain ⟨f0, _, h0⟩ := key 0 (by omega)
    have c0 := h0 0 _ rfl
    have e0 : (a.add (0 * 19)).add 0 = a := by simp [Addr.add]
    rw [e0] at c0
    have ea := spot_none c0
    have hb := World.block_lt_of_cell? _ _ c0
    obtain ⟨f, hf, hr⟩ := key i hin
    rw [ea] at hr
    refine ⟨a.block, a.off, f, by rw [← ea], hb, fun j u hj => ?_, hf⟩
    have := hr j u hj
    rw [Addr.add_mid, Addr.add_mid] at this
    exact this
end

theorem pruns_key (size : Int) (A B : Option Addr) (nl cl nc cc : Nat) (w : World) (hF : FrsIn w A nl) (hT : Turns w B nc) :
    Calls Try.prog 8 #[.int .i64 size, .slice A nl cl, .slice B nc cc] w fun e w' => e = .returned (.bool true) ∧ Below w.heap.size w w' := by
  by_cases h : 60 < nl ∨ 60 < nc
  · exact pruns_long size A B nl cl nc cc w h
  · by_cases hs : 1 ≤ size ∧ size ≤ 64
    · obtain ⟨n, rfl⟩ : ∃ n : Nat, size = n := ⟨size.toNat, by omega⟩
      exact pruns_any n (by omega) (by omega) A B nl cl nc cc w (by omega) (by omega) hF hT
    · exact pruns_bad size hs A B nl cl nc cc w (by omega) (by omega)
end Go.Proofs.Ytoekemceminciaa
