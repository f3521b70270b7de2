/- The plain law of PartsWhole. -/
import Derived.Test.YtdmohidkighajaaQk
namespace Go.Proofs.Ytdmohidkighajaa
open Go.RowKit
set_option linter.unusedVariables false
set_option linter.unusedSimpArgs false

/-- Two versions by their numbers. -/
theorem cmpV_num {a b c d : Int} (hb : 0 ≤ b ∧ b ≤ 4294967295) (hd : 0 ≤ d ∧ d ≤ 4294967295) :
    (cmpV a b c d < 0 ↔ a * 4294967296 + b < c * 4294967296 + d) ∧ (cmpV a b c d = 0 ↔ a = c ∧ b = d) := by
  unfold cmpV cmpI orI
  constructor <;> (repeat' split) <;> omega

/-- A value cut or filled up to n bytes. -/
def padV (n : Nat) (t : List UInt8) : List UInt8 := t.take n ++ List.replicate (n - t.length) 0
theorem padV_len (n : Nat) (t : List UInt8) : (padV n t).length = n := by simp [padV]; omega
/-- The frame of value k. -/
def fW (k : Nat) : Fr := { zFr with vi := ((k / 3 : Nat) : Int), vs := k }

structure WInv (n : Nat) (vals : Nat → List UInt8) (s : Gl) (last : Int) : Prop where
  ok : s.Ok
  len : s.value.length = n
  at_ : (s.is = false ∧ last = -1) ∨ ∃ (k0 : Nat) (left : List Nat), PIs (fW k0) (vals k0) left s ∧ k0 < 8 ∧ last ≤ k0 ∧ (left ≠ [] → last < k0)

/-- What a part answers at a glue that is at its version. -/
theorem put_there {f : Fr} {v : List UInt8} {left : List Nat} {s1 : Gl} (I1 : PIs f v left s1) {i : Nat} (hi : (i : Int) < nParts v.length) :
    ∃ (a : ByteArray) (b : Bool) (e : Int) (s' : Gl) (left' : List Nat), ((if bitAt s1.came (i : Int) = 1 then ((⟨#[]⟩ : ByteArray), false, (14 : Int), s1)
      else if s1.n + 1 < nParts v.length then (⟨#[]⟩, false, 0, s1.took (f.of v (nParts v.length) i)) else (ofL (s1.took (f.of v (nParts v.length) i)).value, true, 0, s1.took (f.of v (nParts v.length) i))) : ByteArray × Bool × Int × Gl) = (a, b, e, s') ∧
      PIs f v left' s' ∧ (b = false → a = ⟨#[]⟩ ∧ (e = 0 ∨ e = 14) ∧ (left' ≠ [] → left ≠ [])) ∧ (b = true → e = 0 ∧ a = ofL v ∧ left ≠ [] ∧ left' = []) := by
  by_cases hm : i ∈ left
  · obtain ⟨k, hk⟩ := List.mem_iff_getElem?.1 hm
    obtain ⟨hb, I2, hn⟩ := took_next I1 hk
    have hkl : k < left.length := (List.getElem?_eq_some_iff.1 hk).1
    have hne : left ≠ [] := by intro h; rw [h] at hkl; simp at hkl
    have hlen : (left.eraseIdx k).length = left.length - 1 := List.length_eraseIdx_of_lt hkl
    rw [if_neg (by rw [hb]; decide)]
    by_cases hl : left.length = 1
    · rw [if_neg (by omega)]
      have he : left.eraseIdx k = [] := List.eq_nil_of_length_eq_zero (by omega)
      have hv : (s1.took (f.of v (nParts v.length) i)).value = v := chunk_eq I2.len (fun j hj => I2.piece j hj (by rw [he]; simp)) (part_facts hi).2.1
      exact ⟨_, true, _, _, _, rfl, I2, fun h => (by cases h), fun _ => ⟨rfl, by rw [hv], hne, he⟩⟩
    · rw [if_pos (by omega)]
      exact ⟨_, false, _, _, _, rfl, I2, fun _ => ⟨rfl, .inl rfl, fun _ => hne⟩, fun h => (by cases h)⟩
  · have hp := part_facts hi
    have hb : bitAt s1.came (i : Int) = 1 := by
      rcases (set_of I1.ok.c0 I1.ok.c1 (show (0 : Int) ≤ i by omega) (by omega)).1 with h | h
      · exact absurd ((I1.came i hi).1 h) hm
      · exact h
    rw [if_pos hb]
    exact ⟨_, false, _, _, _, rfl, I1, fun _ => ⟨rfl, .inr rfl, id⟩, fun h => (by cases h)⟩

theorem whole_next {n : Nat} {vals : Nat → List UInt8} (hv : ∀ k, (vals k).length = n) {s : Gl} {last : Int} (I : WInv n vals s last) {k i : Nat} (hk : k < 8) (hi : (i : Int) < nParts n) :
    ∃ (a : ByteArray) (b : Bool) (e : Int) (s' : Gl), s.put ((fW k).of (vals k) (nParts n) i) = (a, b, e, s') ∧ WInv n vals s' (if b then (k : Int) else last) ∧
      (b = false → a = ⟨#[]⟩ ∧ (e = 0 ∨ e = 1 ∨ e = 14)) ∧ (b = true → e = 0 ∧ last < k ∧ a = ofL (vals k) ∧ s'.is = true ∧ s'.vi = ((k / 3 : Nat) : Int) ∧ s'.vs = k) := by
  have hik : (i : Int) < nParts (vals k).length := by rw [hv]; exact hi
  have hfit : fitsP s.value.length ((fW k).of (vals k) (nParts n) i) := by
    have := of_fits (f := fW k) hik
    rw [hv] at this
    rw [I.len]; exact this
  have key : ∀ (s1 : Gl) (left : List Nat), PIs (fW k) (vals k) left s1 → last ≤ k → (left ≠ [] → last < k) →
      ∃ (a : ByteArray) (b : Bool) (e : Int) (s' : Gl), ((if bitAt s1.came (i : Int) = 1 then ((⟨#[]⟩ : ByteArray), false, (14 : Int), s1)
        else if s1.n + 1 < nParts n then (⟨#[]⟩, false, 0, s1.took ((fW k).of (vals k) (nParts n) i)) else (ofL (s1.took ((fW k).of (vals k) (nParts n) i)).value, true, 0, s1.took ((fW k).of (vals k) (nParts n) i))) : ByteArray × Bool × Int × Gl) = (a, b, e, s') ∧
      WInv n vals s' (if b then (k : Int) else last) ∧
      (b = false → a = ⟨#[]⟩ ∧ (e = 0 ∨ e = 1 ∨ e = 14)) ∧ (b = true → e = 0 ∧ last < k ∧ a = ofL (vals k) ∧ s'.is = true ∧ s'.vi = ((k / 3 : Nat) : Int) ∧ s'.vs = k) := by
    intro s1 left I1 hl1 hl2
    obtain ⟨a, b, e, s', left', he, I2, h3, h4⟩ := put_there I1 hik
    rw [hv] at he
    refine ⟨a, b, e, s', he, ⟨I2.ok, by rw [I2.len, hv], .inr ⟨k, left', I2, hk, ?_, ?_⟩⟩, ?_, ?_⟩
    · cases b
      · simpa using hl1
      · simp
    · intro hne
      cases b
      · simpa using hl2 ((h3 rfl).2.2 hne)
      · exact absurd (h4 rfl).2.2.2 hne
    · intro hb
      have := h3 hb
      exact ⟨this.1, by omega⟩
    · intro hb
      have := h4 hb
      exact ⟨this.1, hl2 this.2.2.1, this.2.1, I2.is, I2.vi, I2.vs⟩
  have fresh : PIs (fW k) (vals k) (List.range (nParts n).toNat) (s.start ((fW k).of (vals k) (nParts n) i)) := by
    refine ⟨start_ok _ _, by rw [hv]; exact I.len, List.nodup_range, ?_, rfl, rfl, rfl, ?_, ?_, ?_⟩
    · intro j hj
      rw [hv]
      have := List.mem_range.1 hj
      omega
    · intro j hj
      show bitAt 0 (j : Int) = 0 ↔ _
      rw [bit_zero_all (part_facts hj).2.2.2.1, List.mem_range]
      rw [hv] at hj
      simp
      omega
    · intro j hj hn
      rw [hv] at hj
      exact absurd (by rw [List.mem_range]; omega) hn
    · show (0 : Int) + (List.range (nParts n).toNat).length = _
      rw [List.length_range, hv]
      have := nParts_le n
      omega
  unfold Gl.put
  rw [if_neg (by show ¬ ((4 : Int) ≠ 4); decide), if_neg (fun h => h hfit)]
  rcases I.at_ with ⟨his, hl⟩ | ⟨k0, left, I0, hk0, hl1, hl2⟩
  · rw [if_neg (by rw [his]; simp)]
    have hx : (if s.is = true ∧ cmpV ((fW k).of (vals k) (nParts n) i).vi ((fW k).of (vals k) (nParts n) i).vs s.vi s.vs = 0 then s else s.start ((fW k).of (vals k) (nParts n) i)) = s.start ((fW k).of (vals k) (nParts n) i) := if_neg (by rw [his]; simp)
    dsimp only
    rw [hx]
    exact key _ _ fresh (by omega) (fun _ => by omega)
  · have hc := @cmpV_num ((k / 3 : Nat) : Int) k ((k0 / 3 : Nat) : Int) k0 (by omega) (by omega)
    have hs : cmpV ((fW k).of (vals k) (nParts n) i).vi ((fW k).of (vals k) (nParts n) i).vs s.vi s.vs = cmpV ((k / 3 : Nat) : Int) k ((k0 / 3 : Nat) : Int) k0 := by rw [I0.vi, I0.vs]; rfl
    rw [hs]
    by_cases hlt : k < k0
    · rw [if_pos ⟨I0.is, hc.1.2 (by omega)⟩]
      exact ⟨_, false, _, _, rfl, by simpa using I, fun _ => ⟨rfl, .inr (.inl rfl)⟩, fun h => (by cases h)⟩
    · rw [if_neg (by rintro ⟨_, h⟩; have := hc.1.1 h; omega)]
      by_cases heq : k = k0
      · have hx : (if s.is = true ∧ cmpV ((k / 3 : Nat) : Int) k ((k0 / 3 : Nat) : Int) k0 = 0 then s else s.start ((fW k).of (vals k) (nParts n) i)) = s := if_pos ⟨I0.is, hc.2.2 (by omega)⟩
        dsimp only
        rw [hx]
        subst heq
        exact key _ _ I0 hl1 hl2
      · have hx : (if s.is = true ∧ cmpV ((k / 3 : Nat) : Int) k ((k0 / 3 : Nat) : Int) k0 = 0 then s else s.start ((fW k).of (vals k) (nParts n) i)) = s.start ((fW k).of (vals k) (nParts n) i) := if_neg (by rintro ⟨_, h⟩; have := hc.2.1 h; omega)
        dsimp only
        rw [hx]
        exact key _ _ fresh (by omega) (fun _ => by omega)
end Go.Proofs.Ytdmohidkighajaa
