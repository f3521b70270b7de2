/- For every input PartsWhole answers true, and each argument reads afterwards as it read before. No condition. -/
import Derived.Test.YtoekemceminciaaRow
import Derived.Test.YtoekemceminciaaOw
namespace Go.Proofs.Ytoekemceminciaa
open Go.ChangeShapes Go.WideShapes Go.ChangeAt Go.RowKit Go.WideMaps Go.WideElems Go.Deep
set_option linter.unusedVariables false
set_option linter.unusedSimpArgs false

theorem pwhole_key (size : Int) (h0 : 0 ≤ size) (h1 : size ≤ 255) (A B : Option Addr) (nv c m d : Nat) (w : World) (vals : Nat → ByteArray) (hS : Strs w A nv vals) (hC : Cames w B m) :
    Calls Try.prog 7 #[.int .u8 size, .slice A nv c, .slice B m d] w fun e w' => e = .returned (.bool true) ∧ Below w.heap.size w w' := by
  by_cases h : nv < 1 ∨ 8 < nv ∨ 100 < m
  · exact pwhole_long size h0 h1 A B nv c m d w h
  · exact pwhole_any size h0 h1 A B nv c m d w (by omega) (by omega) (by omega) vals hS hC

set_option maxRecDepth 100000 in
theorem partsWhole_lifted (os : Os) (started : os.Started) (H : Type) (enc : TypeId × Value → H) :
    ReturnsInHanded {} Try.checked os 7 .any (Rows.partsWholeSpec.pre6 enc Try.prog Try.f7 Rows.partsWholeRow.domain false) (Rows.partsWholeSpec.post enc Try.prog Try.f7 false true false false) := by
  refine returnsInHanded_of_change (C := Try.checked) Try.own started (by kernel_rfl) Try.func7
    (ChangeSpec.witness6 (enc := enc) (C := Try.checked) false ⟨#[], #[.int .u8 0, .slice none 0 0, .slice none 0 0], []⟩ 8 (by kernel_rfl) (by kernel_rfl) (by kernel_rfl) (by kernel_rfl)) ?_
  intro W base args ds gs before hval0 hW hcnd _
  have hval : ∀ (j : Nat) t v, Try.f7.params[j]? = some t → args[j]? = some v → Value.okWide Try.prog W .any base t v := hval0
  have hW' := hW
  obtain ⟨p, q, hA0, hV, rfl, hfz, hnd⟩ := hW
  have hA : DataW.TrodAll enc Try.prog W 0 (fun _ => true) true Try.f7.params.toList args.toList ds p := hA0
  rw [Try.params7] at hA hval
  obtain ⟨v0, v1, v2, d0, d1, d2, p0, p1, p2, rfl, rfl, rfl, h0, h1, h2⟩ := trodAll_three hA
  obtain ⟨size, rfl⟩ := okWide_int Try.underlying5 (hval 0 5 v0 rfl rfl)
  obtain ⟨fuel, hf0⟩ := h0
  obtain ⟨size', e0, _, hw0⟩ := DataW.trod_int Try.underlying5 hf0
  have e0' : size = size' := by simpa [Value.cells] using e0
  subst e0'
  have hb0 := wf_bounds hw0
  obtain ⟨A, nv, c, vals, rfl, hS⟩ := open_strs (hval 1 60 v1 rfl rfl) h1
  obtain ⟨B, m, d, rfl, hC⟩ := open_cames (hval 2 61 v2 rfl rfl) h2
  refine (pwhole_key size hb0.1 hb0.2 A B nv c m d W vals hS hC).mono fun e W' ⟨he, hb⟩ => ?_
  subst he
  exact ⟨_, rfl, law_post hW' rfl rfl (by kernel_rfl) rfl hb⟩

theorem partsWhole_holds : Rows.PartsWholeSaid :=
  OpenClaim.holds_of_wide 7 Try.f7 rfl rfl rfl rfl rfl rfl rfl ⟨rfl, rfl, rfl, rfl, rfl⟩ rfl rfl rfl rfl rfl (by kernel_rfl) Try.func7 (by kernel_rfl)
    (of_decide_eq_true (by kernel_rfl)) (by unfold Func.isWrapper; rw [if_neg (of_decide_eq_false (by kernel_rfl))]; exact ⟨rfl, rfl⟩)
    (fun os started H enc _ => partsWhole_lifted os started H enc)

#print axioms partsWhole_holds
end Go.Proofs.Ytoekemceminciaa
