/- For every input EpochFresh answers true, and each argument reads afterwards as it read before: the tied card. What the card ties: two tables of package unicode/utf8 (named, not read here). No condition. -/
import Derived.Test.YtjmdkhjfjlodmaaDoorRow
import Derived.Test.YtjmdkhjfjlodmaaDoorHs
import Derived.Test.YtjmdkhjfjlodmaaDoorTie
import Derived.Test.YtjmdkhjfjlodmaaDoorCards
import Derived.Lay
import Derived.SevenTiedAt
namespace Go.Proofs.YtjmdkhjfjlodmaaDoor
open Go.ChangeShapes Go.WideShapes Go.ChangeAt Go.RowKit Go.WideMaps Go.WideElems Go.Deep
set_option linter.unusedVariables false
set_option linter.unusedSimpArgs false

set_option maxRecDepth 100000 in
theorem epochFresh_lifted (os : Os) (started : os.Started) (H : Type) (enc : TypeId × Value → H) :
    ReturnsInHanded {} Tryd.checked os 3 .any (fun w args => (Rows.epochFreshSpec.pre enc Tryd.prog Tryd.f3 [] false w args ∧ laidMetH Tryd.prog laid7 w) ∧ sizedMet enc Tryd.prog Tryd.f3 (OpenSpec.ofChange Rows.epochFreshSpec) false w args)
      (Rows.epochFreshSpec.post enc Tryd.prog Tryd.f3 false true false false) := by
  refine returns_laid_shaped (C := Tryd.checked) (X := fun w _ => laidMetH Tryd.prog laid7 w) (fun _ _ _ hh h => h.of_heap hh) Tryd.own started (by kernel_rfl) Tryd.func3
    (ChangeSpec.witness_shaped (enc := enc) (C := Tryd.checked) (os := os) (X := fun w _ => laidMetH Tryd.prog laid7 w) false (World.laidAll Tryd.prog os laid7) #[.agg #[.int .u16 0, .int .u8 0, .int .u16 0], .agg #[.int .u16 0, .int .u8 0, .int .u16 0], .agg #[.int .u16 0, .int .u8 0, .int .u16 0, .int .u16 0, .int .u8 0, .int .u16 0]] 8 (World.laidAll_os _ _ _)
      (World.shaped_of_ZipB (by kernel_rfl) (by kernel_rfl)) (by kernel_rfl) (by kernel_rfl) (by kernel_rfl)
      (by rw [MakeChecks.laidMetH_plain _ _ _ (by kernel_rfl)]; exact laidMet_laidAll _ (by kernel_rfl) (by kernel_rfl))) ?_
  intro W base args ds gs before hval0 hW hL hShaped
  have hval : ∀ (j : Nat) t v, Tryd.f3.params[j]? = some t → args[j]? = some v → Value.okWide Tryd.prog W .any base t v := hval0
  have hW' := hW
  obtain ⟨p, q, hA0, hV, rfl, hfz, hnd⟩ := hW
  have hA : DataW.TrodAll enc Tryd.prog W 0 (fun _ => true) true Tryd.f3.params.toList args.toList ds p := hA0
  rw [Tryd.params3] at hA hval
  obtain ⟨v0, v1, v2, d0, d1, d2, p0, p1, p2, rfl, rfl, rfl, h0, h1, h2⟩ := trodAll_three hA
  obtain ⟨e0, o0, rfl⟩ := open_ep (hval 0 24 v0 rfl rfl) h0
  obtain ⟨e1, o1, rfl⟩ := open_ep (hval 1 24 v1 rfl rfl) h1
  obtain ⟨e2, e3, o2, o3, rfl⟩ := open_ep2 (hval 2 25 v2 rfl rfl) h2
  rw [MakeChecks.laidMetH_plain _ _ _ (by kernel_rfl)] at hL
  refine (fresh_any e0 e1 e2 e3 o0 o1 o2 o3 W (env_of hL hShaped)).mono fun e W' ⟨he, hbl⟩ => ?_
  subst he
  exact ⟨_, rfl, law_post hW' rfl rfl (by kernel_rfl) rfl hbl⟩

theorem epochFresh_row : Rows.EpochFreshSaid :=
  OpenClaim.holds_of_wide 3 Tryd.f3 rfl rfl rfl rfl rfl rfl rfl ⟨rfl, rfl, rfl, rfl, rfl⟩ rfl rfl rfl rfl rfl (by kernel_rfl) Tryd.func3 (by kernel_rfl)
    (of_decide_eq_true (by kernel_rfl)) (by unfold Func.isWrapper; rw [if_neg (of_decide_eq_false (by kernel_rfl))]; exact ⟨rfl, rfl⟩)
    (fun os started H enc _ => epochFresh_lifted os started H enc)

set_option maxRecDepth 100000 in
theorem epochFresh_holds : Rows.EpochFreshCardSaid :=
  Claim7.holds_tied_plain_at .later [] [.data, .data, .data, .data, .sentinel, .sentinel, .pinned] true (true, "756a4ee51d98782798497cc6ea61a488cd780d4109de62f429148d66fe92ecc7") true epochFresh_row (fun _ h => by cases h) (by kernel_rfl) (fun _ h => by cases h) epochFresh_row_tie rfl ⟨rfl, rfl⟩ (by kernel_rfl) rfl
    (fun f fn hf hfn => by
      obtain rfl : f = 3 := Option.some.inj ((show Tryd.prog.funcNamed "fugleman/fuglemanlaw03.EpochFresh" = some 3 by kernel_rfl).symm.trans hf) |>.symm
      obtain rfl : fn = Tryd.f3 := (Option.some.inj (Tryd.func3.symm.trans hfn)).symm
      exact ⟨by kernel_rfl, fun j t ht => by
        rw [Tryd.params3] at ht
        have hm : t ∈ [24, 24, 25] := by simpa using Array.mem_of_getElem? ht
        have hall : ([24, 24, 25].all fun u => !Tryd.prog.wantsStandIn u) = true := by kernel_rfl
        exact (show Tryd.prog.wantsStandIn t = false by simpa using List.all_eq_true.1 hall t hm)⟩)
    (by kernel_rfl)

#print axioms epochFresh_holds
end Go.Proofs.YtjmdkhjfjlodmaaDoor
