/- A region that draws its order: a call that leaves every world as it is may be taken first, too. No program is named here. -/
import Derived.OrdersHeld
import Derived.Deep.RegionHeld3
import Derived.WalkKit
namespace Go.Proofs.Ytdmohidkighajaa
open Go.RowKit
set_option linter.unusedVariables false
set_option linter.unusedSimpArgs false

section
variable {P : Program} {ops : Array Oper} {Q : Exit → Act → World → Prop} {md : Region.Mode} {S : World → Prop}

/-- In state 'a' operation 'o' is a call that in each world of S answers v and leaves it. -/
structure GivesIf (P : Program) (ops : Array Oper) (S : World → Prop) (o : Oper) (f : FuncId) (args : Array Value) (v : Value) (a : Act) : Prop where
  wants : Region.wanted o (yielded ops a.tmps) = true
  enters : ∀ w, S w → (execOp a.eval o).run P w = .ok (.enter f args) w
  gives : ∀ w, S w → Calls P f args w fun e w' => e = .returned v ∧ w = w'

variable {oi : Oper} {f : FuncId} {args : Array Value} {v : Value}

theorem GivesIf.now {i : Nat} {a : Act} {w : World} {K : Act → World → Prop} (g : GivesIf P ops S oi f args v a) (hi : ops[i]? = some oi) (hS : S w) (h : K (a.put oi.dst v) w) : wpOp P ops Q i K a w := by
  have hc := g.gives w hS
  unfold Go.wpOp
  simp only [hi, g.wants, if_true]
  left
  unfold Oper.wp
  rw [g.enters w hS]
  simp only [Oper.upon]
  refine hc.mono fun e w' hh => ?_
  obtain ⟨rfl, rfl⟩ := hh
  exact h

theorem GivesIf.other {a a' : Act} (g : GivesIf P ops S oi f args v a) (he : execOp a'.eval oi = execOp a.eval oi) (hw : Region.wanted oi (yielded ops a'.tmps) = Region.wanted oi (yielded ops a.tmps)) : GivesIf P ops S oi f args v a' :=
  ⟨hw.trans g.wants, fun w hS => by rw [he]; exact g.enters w hS, g.gives⟩

/-- Another operation, apart from it, does not meet it. -/
theorem GivesIf.past {j : Nat} {oj : Oper} {a : Act} {w : World} {K : Act → World → Prop} (g : GivesIf P ops S oi f args v a) (hj : ops[j]? = some oj) (hap : oi.apart ops oj = true)
    (hsi : ∀ cs b, oi.op ≠ .select cs b) (hsj : ∀ cs b, oj.op ≠ .select cs b) (hQ : ∀ c a w, Q (.panic c) (a.put oi.dst v) w → Q (.panic c) a w)
    (h : wpOp P ops Q j K (a.put oi.dst v) w) : wpOp P ops Q j (fun a' w' => GivesIf P ops S oi f args v a' ∧ K (a'.put oi.dst v) w') a w := by
  obtain ⟨p1, p2, p3⟩ := Oper.apart_spec hap
  have put : ∀ (b : Act), GivesIf P ops S oi f args v b → ∀ u, GivesIf P ops S oi f args v (b.put oj.dst u) := fun b gb u => gb.other (execOp_put oi hsi b oj.dst u p3) (wanted_put oi b oj.dst u p3)
  have swap : ∀ u w', K ((a.put oi.dst v).put oj.dst u) w' → GivesIf P ops S oi f args v (a.put oj.dst u) ∧ K ((a.put oj.dst u).put oi.dst v) w' := fun u w' hk => ⟨put a g u, by rw [← Act.put_comm a v u p2]; exact hk⟩
  have hw := wanted_put (ops := ops) oj a oi.dst v p1
  unfold Go.wpOp at h ⊢
  simp only [hj] at h ⊢
  rw [hw] at h
  by_cases hwa : Region.wanted oj (yielded ops a.tmps) = true
  · rw [if_pos hwa] at h ⊢
    rcases h with h | ⟨ha, hl⟩
    · left
      unfold Oper.wp at h ⊢
      rw [execOp_put oj hsj a oi.dst v p1] at h
      cases hr : (execOp a.eval oj).run P w with
      | halt x w' =>
        rw [hr] at h
        cases x <;> simp only [Oper.upon] at h ⊢
        exact hQ _ _ _ h
      | ok n w' =>
        rw [hr] at h
        cases n <;> simp only [Oper.upon] at h ⊢
        case value u => exact swap u w' h
        case skip => exact swap _ w' h
        case defer d =>
          refine ⟨put { a with defers := d :: a.defers } (g.other rfl rfl) _, ?_⟩
          rw [← Act.put_comm _ v undef p2, ← Act.put_defers]
          exact h
        case enter f' args' =>
          refine Calls.mono h fun e w'' he => ?_
          cases e with
          | returned u => exact swap u w'' he
          | panicked c => exact hQ _ _ _ he
          | outgrown => exact he
        case row row' args' => exact Rows.mono h fun u w'' he => swap u w'' he
    · right
      exact ⟨by unfold Oper.asks at ha ⊢; rw [execOp_put oj hsj a oi.dst v p1] at ha; exact ha, hl⟩
  · rw [if_neg hwa] at h ⊢
    exact swap _ w h

theorem wpAnyH_call_all {i : Nat} (hi : ops[i]? = some oi) (hsel : ∀ (j : Nat) (o : Oper) cs b, ops[j]? = some o → o.op ≠ .select cs b) (hQ : ∀ c a w, Q (.panic c) (a.put oi.dst v) w → Q (.panic c) a w) :
    ∀ (fuel : Nat) (listed : Array Bool) (a : Act) (w : World),
      (∀ j oj, ops[j]? = some oj → j ≠ i → listed.getD j true = false → (∀ e ∈ oj.after, Region.binds md e = true → e.on ≠ i) → oi.apart ops oj = true) →
      i ∈ Region.ready md ops listed → GivesIf P ops S oi f args v a → S w →
      wpAnyH P md ops Q S fuel (listed.setIfInBounds i true) (a.put oi.dst v) w → wpAnyH P md ops Q S (fuel + 1) listed a w
  | 0, listed, a, w, _, hr, g, hS, H => ⟨fun h => (by rw [h] at hr; cases hr), fun j hj => by
      by_cases hji : j = i
      · subst hji; exact g.now hi hS ⟨hS, H⟩
      · have := ready_mono hj hji
        rw [H.1] at this
        cases this⟩
  | fuel + 1, listed, a, w, hfree, hr, g, hS, H => ⟨fun h => (by rw [h] at hr; cases hr), fun j hj => by
      by_cases hji : j = i
      · subst hji; exact g.now hi hS ⟨hS, H⟩
      obtain ⟨hun, oj, hoj, hall⟩ := mem_ready.1 hj
      have hri := (mem_ready.1 hr).1
      have off : ∀ e ∈ oj.after, Region.binds md e = true → e.on ≠ i := fun e he hb heq => by
        have h1 := hall e he hb
        rw [heq] at h1
        by_cases hlt : i < listed.size
        · simp [hlt] at hri h1; rw [hri] at h1; cases h1
        · simp [Array.getElem?_eq_none (Nat.le_of_not_lt hlt)] at h1
      have h2 := g.past hoj (hfree j oj hoj hji hun off) (fun cs b => hsel i oi cs b hi) (fun cs b => hsel j oj cs b hoj) hQ (H.2 j (ready_mono hj hji))
      refine wpOp_mono (fun a' w' h3 => ⟨h3.2.1, wpAnyH_call_all hi hsel hQ fuel (listed.setIfInBounds j true) a' w' (fun k ok hk hki hku hno => hfree k ok hk hki ?_ hno) (ready_mono hr (Ne.symm hji)) h3.1 h3.2.1 ?_⟩) h2
      · by_cases hjk : j = k
        · subst hjk; exact hun
        · rw [getD_set_ne true hjk] at hku; exact hku
      · rw [Array.setIfInBounds_comm _ _ hji]
        exact h3.2.2⟩

/-- Take number i first, a call that leaves each world of S. -/
theorem wpAnyH_call {i : Nat} {fuel : Nat} {listed : Array Bool} {a : Act} {w : World} (hi : ops[i]? = some oi) (hs : Region.noSelect ops = true) (hf : Region.free md ops listed i = true) (hr : (Region.ready md ops listed).contains i = true)
    (hQ : ∀ c a w, Q (.panic c) (a.put oi.dst v) w → Q (.panic c) a w) (g : GivesIf P ops S oi f args v a) (hS : S w)
    (h : wpAnyH P md ops Q S fuel (listed.setIfInBounds i true) (a.put oi.dst v) w) : wpAnyH P md ops Q S (fuel + 1) listed a w :=
  wpAnyH_call_all hi (Region.noSelect_spec hs) hQ fuel listed a w (Region.free_spec hi hf) (by simpa using hr) g hS h
end
end Go.Proofs.Ytdmohidkighajaa
