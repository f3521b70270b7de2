/- For every input PartsSplits answers true, and each argument reads afterwards as it read before. No condition. -/
import Derived.Test.YtoekemceminciaaRow
import Derived.Test.YtoekemceminciaaOf
namespace Go.Proofs.Ytoekemceminciaa
open Go.ChangeShapes Go.WideShapes Go.ChangeAt Go.RowKit Go.WideMaps Go.WideElems Go.Deep
set_option linter.unusedVariables false
set_option linter.unusedSimpArgs false

theorem psplits_key (f : Fr) (v : ByteArray) (A : Option Addr) (m c : Nat) (w : World) (ht : Turns w A m) :
    Calls Try.prog 6 #[.agg (frV f), .string v, .slice A m c] w fun e w' => e = .returned (.bool true) ∧ Below w.heap.size w w' := by
  by_cases h : 80 < v.size ∨ 40 < f.bytes.size
  · exact psplits_long f v A m c w h
  · exact psplits_short f v A m c w (by omega) (by omega) ht

set_option maxRecDepth 100000 in
theorem partsSplits_lifted (os : Os) (started : os.Started) (H : Type) (enc : TypeId × Value → H) :
    ReturnsInHanded {} Try.checked os 6 .any (Rows.partsSplitsSpec.pre6 enc Try.prog Try.f6 Rows.partsSplitsRow.domain false) (Rows.partsSplitsSpec.post enc Try.prog Try.f6 false true false false) := by
  refine returnsInHanded_of_change (C := Try.checked) Try.own started (by kernel_rfl) Try.func6
    (ChangeSpec.witness6 (enc := enc) (C := Try.checked) false ⟨#[], #[.agg (frV zFr), .string ⟨#[]⟩, .slice none 0 0], []⟩ 8 (by kernel_rfl) (by kernel_rfl) (by kernel_rfl) (by kernel_rfl)) ?_
  intro W base args ds gs before hval0 hW hcnd _
  have hval : ∀ (j : Nat) t v, Try.f6.params[j]? = some t → args[j]? = some v → Value.okWide Try.prog W .any base t v := hval0
  have hW' := hW
  obtain ⟨p, q, hA0, hV, rfl, hfz, hnd⟩ := hW
  have hA : DataW.TrodAll enc Try.prog W 0 (fun _ => true) true Try.f6.params.toList args.toList ds p := hA0
  rw [Try.params6] at hA hval
  obtain ⟨v0, v1, v2, d0, d1, d2, p0, p1, p2, rfl, rfl, rfl, h0, h1, h2⟩ := trodAll_three hA
  obtain ⟨f, rfl, _⟩ := open_frame (hval 0 52 v0 rfl rfl) h0
  obtain ⟨s, rfl⟩ := okWide_string Try.underlying9 (hval 1 9 v1 rfl rfl)
  obtain ⟨A, n, c, rfl, ht⟩ := open_turns (hval 2 41 v2 rfl rfl) h2
  refine (psplits_key f s A n c W ht).mono fun e W' ⟨he, hb⟩ => ?_
  subst he
  exact ⟨_, rfl, law_post hW' rfl rfl (by kernel_rfl) rfl hb⟩

theorem partsSplits_holds : Rows.PartsSplitsSaid :=
  OpenClaim.holds_of_wide 6 Try.f6 rfl rfl rfl rfl rfl rfl rfl ⟨rfl, rfl, rfl, rfl, rfl⟩ rfl rfl rfl rfl rfl (by kernel_rfl) Try.func6 (by kernel_rfl)
    (of_decide_eq_true (by kernel_rfl)) (by unfold Func.isWrapper; rw [if_neg (of_decide_eq_false (by kernel_rfl))]; exact ⟨rfl, rfl⟩)
    (fun os started H enc _ => partsSplits_lifted os started H enc)

#print axioms partsSplits_holds
end Go.Proofs.Ytoekemceminciaa
