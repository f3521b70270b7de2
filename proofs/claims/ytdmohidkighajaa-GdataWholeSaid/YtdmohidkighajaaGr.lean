/- Put, whichever way; and Split. -/
import Derived.Test.YtdmohidkighajaaGq
namespace Go.Proofs.Ytdmohidkighajaa
open Go.RowKit
set_option linter.unusedVariables false
set_option linter.unusedSimpArgs false

instance (n : Int) (f : Fr) : Decidable (fitsP n f) := by unfold fitsP; infer_instance

/-- What Put does. -/
def Gl.put (s : Gl) (f : Fr) : ByteArray × Bool × Int × Gl :=
  if f.kind ≠ 4 then (⟨#[]⟩, false, 11, s)
  else if ¬ fitsP s.value.length f then (⟨#[]⟩, false, 3, s)
  else if s.is = true ∧ cmpV f.vi f.vs s.vi s.vs < 0 then (⟨#[]⟩, false, 1, s)
  else
    let s1 := if s.is = true ∧ cmpV f.vi f.vs s.vi s.vs = 0 then s else s.start f
    if bitAt s1.came f.part = 1 then (⟨#[]⟩, false, 14, s1)
    else if s1.n + 1 < f.parts then (⟨#[]⟩, false, 0, s1.took f)
    else (ofL (s1.took f).value, true, 0, s1.took f)

/-- How many bits stand. -/
def pop (c : Int) : Int := bitAt c 0 + bitAt c 1 + bitAt c 2 + bitAt c 3
structure Gl.Ok (s : Gl) : Prop where
  c0 : 0 ≤ s.came
  c1 : s.came < 16
  n : s.n = pop s.came

theorem pop_facts : ∀ c : Fin 16, 0 ≤ pop (c.val : Int) ∧ pop (c.val : Int) ≤ 4 ∧ ∀ p : Fin 4, bitAt (c.val : Int) (p.val : Int) = 0 → pop (setAt (c.val : Int) (p.val : Int)) = pop (c.val : Int) + 1 := by decide +kernel

theorem pop_of {c : Int} (h0 : 0 ≤ c) (h1 : c < 16) : 0 ≤ pop c ∧ pop c ≤ 4 := by
  have := pop_facts ⟨c.toNat, by omega⟩
  have e : (((⟨c.toNat, by omega⟩ : Fin 16).val : Nat) : Int) = c := by simp; omega
  rw [e] at this
  exact ⟨this.1, this.2.1⟩
theorem set_of {c p : Int} (h0 : 0 ≤ c) (h1 : c < 16) (p0 : 0 ≤ p) (p1 : p < 4) : (bitAt c p = 0 ∨ bitAt c p = 1) ∧ 0 ≤ setAt c p ∧ setAt c p < 16 ∧ (bitAt c p = 0 → pop (setAt c p) = pop c + 1) := by
  have h := pop_facts ⟨c.toNat, by omega⟩
  have hb := bit_facts ⟨c.toNat, by omega⟩ ⟨p.toNat, by omega⟩
  have e : (((⟨c.toNat, by omega⟩ : Fin 16).val : Nat) : Int) = c := by simp; omega
  have e2 : (((⟨p.toNat, by omega⟩ : Fin 4).val : Nat) : Int) = p := by simp; omega
  have h2 := h.2.2 ⟨p.toNat, by omega⟩
  rw [e, e2] at hb h2
  exact ⟨hb.1, hb.2.1, hb.2.2.1, h2⟩
theorem bit_set {c p q : Int} (h0 : 0 ≤ c) (h1 : c < 16) (p0 : 0 ≤ p) (p1 : p < 4) (q0 : 0 ≤ q) (q1 : q < 4) : bitAt (setAt c p) q = if q = p then 1 else bitAt c q := by
  have hb := (bit_facts ⟨c.toNat, by omega⟩ ⟨p.toNat, by omega⟩).2.2.2.2 ⟨q.toNat, by omega⟩
  have e : (((⟨c.toNat, by omega⟩ : Fin 16).val : Nat) : Int) = c := by simp; omega
  have e2 : (((⟨p.toNat, by omega⟩ : Fin 4).val : Nat) : Int) = p := by simp; omega
  have e3 : (((⟨q.toNat, by omega⟩ : Fin 4).val : Nat) : Int) = q := by simp; omega
  rw [e, e2, e3] at hb
  rw [hb]
  by_cases hq : q = p
  · rw [if_pos hq, if_pos (by simp [hq])]
  · rw [if_neg hq, if_neg (by intro hh; have := congrArg Fin.val hh; simp at this; omega)]

theorem start_ok (s : Gl) (f : Fr) : (s.start f).Ok := ⟨by simp [Gl.start], by simp [Gl.start], by simp only [Gl.start]; decide +kernel⟩
theorem took_ok {s : Gl} {f : Fr} (so : s.Ok) (hf : fitsP s.value.length f) (hb : bitAt s.came f.part = 0) : (s.took f).Ok := by
  have hp := fits_part hf
  have := set_of so.c0 so.c1 hp.1 hp.2
  exact ⟨this.2.1, this.2.2.1, by show s.n + 1 = _; rw [so.n]; exact (this.2.2.2 hb).symm⟩

/-- Put's answer and its glue are again a good one of the same size. -/
theorem put_ok {s : Gl} (so : s.Ok) (f : Fr) : (s.put f).2.2.2.Ok ∧ (s.put f).2.2.2.value.length = s.value.length := by
  unfold Gl.put
  split
  · exact ⟨so, rfl⟩
  · split
    · exact ⟨so, rfl⟩
    · rename_i hf
      have hf : fitsP s.value.length f := Classical.byContradiction hf
      split
      · exact ⟨so, rfl⟩
      · have h1 : ∀ s1 : Gl, s1.Ok → s1.value.length = s.value.length → (((if bitAt s1.came f.part = 1 then ((⟨#[]⟩ : ByteArray), false, (14 : Int), s1)
            else if s1.n + 1 < f.parts then (⟨#[]⟩, false, 0, s1.took f) else (ofL (s1.took f).value, true, 0, s1.took f)) : ByteArray × Bool × Int × Gl).2.2.2.Ok ∧
            ((if bitAt s1.came f.part = 1 then ((⟨#[]⟩ : ByteArray), false, (14 : Int), s1)
            else if s1.n + 1 < f.parts then (⟨#[]⟩, false, 0, s1.took f) else (ofL (s1.took f).value, true, 0, s1.took f)) : ByteArray × Bool × Int × Gl).2.2.2.value.length = s.value.length) := by
          intro s1 o1 l1
          have hf1 : fitsP s1.value.length f := by rw [l1]; exact hf
          have hp := fits_part hf1
          split
          · exact ⟨o1, l1⟩
          · rename_i hb
            have hb0 : bitAt s1.came f.part = 0 := by
              rcases (set_of o1.c0 o1.c1 hp.1 hp.2).1 with h | h
              · exact h
              · exact absurd h hb
            have l2 : (s1.took f).value.length = s.value.length := by rw [Gl.took_len hf1, l1]
            split
            · exact ⟨took_ok o1 hf1 hb0, l2⟩
            · exact ⟨took_ok o1 hf1 hb0, l2⟩
        dsimp only
        split
        · exact h1 s so rfl
        · exact h1 (s.start f) (start_ok s f) rfl

theorem put_any {w : World} {g h cap : Nat} {s : Gl} (k : GAt w g h cap s) (so : s.Ok) (f : Fr) (ok : FrOk f) :
    Calls Try.prog 31 #[.pointer (some ⟨g, 0, none⟩), .agg (frV f)] w fun e w' => e = putR (s.put f).1 (s.put f).2.1 (s.put f).2.2.1 ∧ GAt w' g h cap (s.put f).2.2.2 ∧ Only g h w w' := by
  have hgl := k.glt
  have hhl := k.lt
  have same : ∀ w', Below w.heap.size w w' → GAt w' g h cap s ∧ Only g h w w' := fun w' b => ⟨k.below b, b.os, b.tape, b.output, b.size, fun k hk _ _ => b.block k hk⟩
  unfold Gl.put
  split
  · rename_i hk
    exact (put_kind k f hk).mono fun e w' ⟨he, b⟩ => ⟨he, same w' b⟩
  · rename_i hk
    have hk : f.kind = 4 := Classical.byContradiction hk
    split
    · rename_i hf
      exact (put_form k f ok hk hf).mono fun e w' ⟨he, b⟩ => ⟨he, same w' b⟩
    · rename_i hf
      have hf : fitsP s.value.length f := Classical.byContradiction hf
      have hp := fits_part hf
      split
      · rename_i hc
        exact (put_old k f ok hk hf hc.1 hc.2).mono fun e w' ⟨he, b⟩ => ⟨he, same w' b⟩
      · rename_i hc
        dsimp only
        split
        · rename_i hs
          have hn := pop_of so.c0 so.c1
          have hn2 : 0 ≤ s.n ∧ s.n ≤ 1000 := by rw [so.n]; omega
          split
          · rename_i hb
            exact (put_twice k f ok hk hf hs.1 hs.2 hb).mono fun e w' ⟨he, b⟩ => ⟨he, same w' b⟩
          · rename_i hb
            have hb0 : bitAt s.came f.part = 0 := by
              rcases (set_of so.c0 so.c1 hp.1 hp.2).1 with h | h
              · exact h
              · exact absurd h hb
            split
            · exact put_same_more k f ok hk hf hs.1 hs.2 hb0 hn2 (by assumption)
            · exact put_same_last k f ok hk hf hs.1 hs.2 hb0 hn2 (by assumption)
        · rename_i hs
          have hb0 : bitAt (s.start f).came f.part = 0 := bit_zero hp
          rw [if_neg (by rw [hb0]; decide)]
          cases hi : s.is
          · split
            · exact put_fresh_more k f ok hk hf hi (by assumption)
            · exact put_fresh_last k f ok hk hf hi (by assumption)
          · have hgt : 0 < cmpV f.vi f.vs s.vi s.vs := by
              have a1 : ¬ cmpV f.vi f.vs s.vi s.vs < 0 := fun hh => hc ⟨hi, hh⟩
              have a2 : ¬ cmpV f.vi f.vs s.vi s.vs = 0 := fun hh => hs ⟨hi, hh⟩
              omega
            split
            · exact put_newer_more k f ok hk hf hi hgt (by assumption)
            · exact put_newer_last k f ok hk hf hi hgt (by assumption)
end Go.Proofs.Ytdmohidkighajaa
