/- For every input GdataComes answers true, and each argument reads afterwards as it read before. No condition. -/
import Derived.Test.YtdmohidkighajaaRow
import Derived.Test.YtdmohidkighajaaOi
namespace Go.Proofs.Ytdmohidkighajaa
open Go.ChangeShapes Go.WideShapes Go.ChangeAt Go.RowKit Go.WideMaps Go.WideElems Go.Deep
set_option linter.unusedVariables false
set_option linter.unusedSimpArgs false

set_option maxRecDepth 100000 in
theorem gdataComes_lifted (os : Os) (started : os.Started) (H : Type) (enc : TypeId × Value → H) :
    ReturnsInHanded {} Try.checked os 3 .any (Rows.gdataComesSpec.pre6 enc Try.prog Try.f3 Rows.gdataComesRow.domain false) (Rows.gdataComesSpec.post enc Try.prog Try.f3 false true false false) := by
  refine returnsInHanded_of_change (C := Try.checked) Try.own started (by kernel_rfl) Try.func3
    (ChangeSpec.witness6 (enc := enc) (C := Try.checked) false ⟨#[], #[.int .u8 0, .slice none 0 0, .slice none 0 0], []⟩ 8 (by kernel_rfl) (by kernel_rfl) (by kernel_rfl) (by kernel_rfl)) ?_
  intro W base args ds gs before hval0 hW hcnd _
  have hval : ∀ (j : Nat) t v, Try.f3.params[j]? = some t → args[j]? = some v → Value.okWide Try.prog W .any base t v := hval0
  have hW' := hW
  obtain ⟨p, q, hA0, hV, rfl, hfz, hnd⟩ := hW
  have hA : DataW.TrodAll enc Try.prog W 0 (fun _ => true) true Try.f3.params.toList args.toList ds p := hA0
  rw [Try.params3] at hA hval
  obtain ⟨v0, v1, v2, d0, d1, d2, p0, p1, p2, rfl, rfl, rfl, h0, h1, h2⟩ := trodAll_three hA
  obtain ⟨size, rfl, hs0, hs1⟩ := open_u8 (hval 0 5 v0 rfl rfl) h0
  obtain ⟨A, nv, cv, rfl, hS⟩ := open_strsIn (hval 1 22 v1 rfl rfl) h1
  obtain ⟨B, nt, ct, rfl, hT⟩ := open_turns (hval 2 23 v2 rfl rfl) h2
  refine (gcomes_key size hs0 hs1 A B nv cv nt ct W hS hT).mono fun e W' ⟨he, hb⟩ => ?_
  subst he
  exact ⟨_, rfl, law_post hW' rfl rfl (by kernel_rfl) rfl hb⟩

theorem gdataComes_holds : Rows.GdataComesSaid :=
  OpenClaim.holds_of_wide 3 Try.f3 rfl rfl rfl rfl rfl rfl rfl ⟨rfl, rfl, rfl, rfl, rfl⟩ rfl rfl rfl rfl rfl (by kernel_rfl) Try.func3 (by kernel_rfl)
    (of_decide_eq_true (by kernel_rfl)) (by unfold Func.isWrapper; rw [if_neg (of_decide_eq_false (by kernel_rfl))]; exact ⟨rfl, rfl⟩)
    (fun os started H enc _ => gdataComes_lifted os started H enc)

#print axioms gdataComes_holds
end Go.Proofs.Ytdmohidkighajaa
