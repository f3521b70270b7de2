/- Layer 3, plain law: an epoch's text: its pieces, their numbers. -/
import Derived.Test.YtjmdkhjfjlodmaaDoorEf
import Derived.Lib.SplitLaws
import Derived.Lib.ParseIntBCases
namespace Go.Proofs.YtjmdkhjfjlodmaaDoor
open Go.RowKit
set_option linter.unusedVariables false
set_option linter.unusedSimpArgs false

theorem dd_digits (n : Nat) : ∀ x ∈ dd n, 48 ≤ x.toNat ∧ x.toNat ≤ 57 := by
  induction n using Nat.strongRecOn with
  | _ n ih =>
    by_cases h : n < 10
    · rw [dd_small h]
      intro x hx
      simp at hx
      subst hx
      simp
      omega
    · rw [dd_great (by omega)]
      intro x hx
      rw [List.mem_append] at hx
      rcases hx with hx | hx
      · exact ih (n / 10) (by omega) x hx
      · simp at hx
        subst hx
        simp
        omega
theorem dd_dot (n : Nat) : (46 : UInt8) ∉ dd n := fun h => by
  have := (dd_digits n 46 h).1
  simp at this
theorem dd_ne (n : Nat) : dd n ≠ [] := by
  by_cases h : n < 10
  · rw [dd_small h]; simp
  · rw [dd_great (by omega)]; simp

theorem pm_cons (M acc : Nat) (c : UInt8) (r : List UInt8) : Lib.parseUintM M acc (c :: r) = if 48 ≤ c.toNat ∧ c.toNat ≤ 57 then (if 1844674407370955162 ≤ acc then .range else if M < acc * 10 + (c.toNat - 48) then .range else Lib.parseUintM M (acc * 10 + (c.toNat - 48)) r) else .syntax := rfl
theorem drop_dot (A R : List UInt8) : (A ++ 46 :: R).drop (A.length + [(46 : UInt8)].length) = R := by
  induction A with
  | nil => rfl
  | cons c t ih => simp
theorem pm_app {M : Nat} : ∀ (l r : List UInt8) (acc u : Nat), Lib.parseUintM M acc l = .ok u → Lib.parseUintM M acc (l ++ r) = Lib.parseUintM M u r := by
  intro l
  induction l with
  | nil => intro r acc u h; unfold Lib.parseUintM at h; injection h with h; subst h; rfl
  | cons c t ih =>
    intro r acc u h
    rw [List.cons_append, pm_cons]
    rw [pm_cons] at h
    split at h
    · rename_i h1
      rw [if_pos h1]
      split at h
      · cases h
      · rename_i h2
        rw [if_neg h2]
        split at h
        · cases h
        · rename_i h3
          rw [if_neg h3]
          exact ih r _ u h
    · cases h
theorem pm_one {M acc d : Nat} (hd : d < 10) (ha : acc < 1844674407370955162) (hM : acc * 10 + d ≤ M) : Lib.parseUintM M acc [UInt8.ofNat (48 + d)] = .ok (acc * 10 + d) := by
  have hx : (UInt8.ofNat (48 + d)).toNat = 48 + d := by simp; omega
  unfold Lib.parseUintM
  rw [hx, if_pos (by omega), if_neg (by omega), if_neg (by omega)]
  unfold Lib.parseUintM
  congr 1
  omega
theorem pm_dd {M : Nat} (hM : M ≤ 65535) (n : Nat) (h : n ≤ M) : Lib.parseUintM M 0 (dd n) = .ok n := by
  induction n using Nat.strongRecOn with
  | _ n ih =>
    by_cases h1 : n < 10
    · rw [dd_small h1, pm_one h1 (by omega) (by omega)]
      congr 1
      omega
    · rw [dd_great (by omega), pm_app _ _ 0 (n / 10) (ih (n / 10) (by omega) (by omega)), pm_one (by omega) (by omega) (by omega)]
      congr 1
      omega
theorem pu16_dd {n : Nat} (h : n < 65536) : Lib.parseUintB 16 (dd n) = .ok n := by
  unfold Lib.parseUintB
  rw [if_neg (dd_ne n)]
  exact pm_dd (by decide) n (by omega)
theorem pu8_dd {n : Nat} (h : n < 256) : Lib.parseUintB 8 (dd n) = .ok n := by
  unfold Lib.parseUintB
  rw [if_neg (dd_ne n)]
  exact pm_dd (by decide) n (by omega)

theorem idx_dot {A R : List UInt8} (h : (46 : UInt8) ∉ A) : Lib.index (A ++ 46 :: R) [46] = A.length := by
  refine Lib.index_first (by simp) ?_ ?_
  · unfold Lib.occAt
    rw [List.drop_append_of_le_length (by omega), List.drop_of_length_le (by omega)]
    simp
  · intro j hj
    cases ho : Lib.occAt (A ++ 46 :: R) [46] j with
    | false => rfl
    | true =>
      have := Lib.occAt_head (c := 46) (t := []) rfl ho
      rw [List.getElem?_append_left hj] at this
      exact absurd (List.mem_of_getElem? this) h

theorem text_count (e : Ep) : Lib.count e.text [46] = 2 := by
  rw [Lib.count_one]
  unfold Ep.text
  simp only [List.count_append, List.count_eq_zero.2 (dd_dot _)]
  decide
theorem text_split (e : Ep) : Lib.splitK [46] 0 2 e.text = [dd e.c, dd e.a, dd e.i] := by
  have e1 : e.text = dd e.c ++ 46 :: (dd e.a ++ 46 :: dd e.i) := by unfold Ep.text; simp
  rw [e1]
  have i1 := idx_dot (R := dd e.a ++ 46 :: dd e.i) (dd_dot e.c)
  have i2 := idx_dot (R := dd e.i) (dd_dot e.a)
  unfold Lib.splitK
  rw [i1, if_neg (by simp), Int.toNat_natCast]
  have d1 : (dd e.c ++ 46 :: (dd e.a ++ 46 :: dd e.i)).take ((dd e.c).length + 0) = dd e.c := by simp
  have d2 : (dd e.c ++ 46 :: (dd e.a ++ 46 :: dd e.i)).drop ((dd e.c).length + [(46 : UInt8)].length) = dd e.a ++ 46 :: dd e.i := drop_dot _ _
  rw [d1, d2]
  unfold Lib.splitK
  rw [i2, if_neg (by simp), Int.toNat_natCast]
  have d3 : (dd e.a ++ 46 :: dd e.i).take ((dd e.a).length + 0) = dd e.a := by simp
  have d4 : (dd e.a ++ 46 :: dd e.i).drop ((dd e.a).length + [(46 : UInt8)].length) = dd e.i := drop_dot _ _
  rw [d3, d4]
  rfl

/-- The text tells the epoch. -/
theorem text_inj {x y : Ep} (hx : x.ok) (hy : y.ok) (h : x.text = y.text) : x = y := by
  have h1 := text_split x
  rw [h, text_split y] at h1
  injection h1 with a1 h1
  injection h1 with a2 h1
  injection h1 with a3 _
  have p1 := pu16_dd hx.c
  have p2 := pu8_dd hx.a
  have p3 := pu16_dd hx.i
  rw [← a1, pu16_dd hy.c] at p1
  rw [← a2, pu8_dd hy.a] at p2
  rw [← a3, pu16_dd hy.i] at p3
  injection p1 with p1
  injection p2 with p2
  injection p3 with p3
  obtain ⟨a, b, c⟩ := x
  obtain ⟨d, e, f⟩ := y
  simp only at p1 p2 p3
  subst p1 p2 p3
  rfl

open Classical in
/-- What a text is read as. -/
noncomputable def readE (s : List UInt8) : Ep × Bool := if h : ∃ e : Ep, e.ok ∧ e.text = s then (Classical.choose h, true) else (Ep.zero, false)
theorem readE_yes {e : Ep} {s : List UInt8} (ok : e.ok) (h : e.text = s) : readE s = (e, true) := by
  have hx : ∃ e : Ep, e.ok ∧ e.text = s := ⟨e, ok, h⟩
  unfold readE
  rw [dif_pos hx]
  have := Classical.choose_spec hx
  rw [text_inj this.1 ok (this.2.trans h.symm)]
theorem readE_no {s : List UInt8} (h : ∀ e : Ep, e.ok → e.text ≠ s) : readE s = (Ep.zero, false) := by
  unfold readE
  rw [dif_neg]
  rintro ⟨e, ok, he⟩
  exact h e ok he

theorem split_three {S : List UInt8} (h : Lib.countB (ofL S) ⟨#[46]⟩ + 1 = 3) : ∃ p q r : ByteArray, Lib.splitB ⟨#[46]⟩ 0 (Lib.countB (ofL S) ⟨#[46]⟩) (ofL S) = [p, q, r] ∧ Lib.splitK [46] 0 2 S = [p.data.toList, q.data.toList, r.data.toList] := by
  have hc : Lib.countB (ofL S) ⟨#[46]⟩ = 2 := by omega
  rw [hc]
  have hl := Lib.splitB_all ⟨#[46]⟩ (by decide) 0 2 (ofL S) hc
  have hd := Lib.splitB_data ⟨#[46]⟩ 0 2 (ofL S)
  match hL : Lib.splitB ⟨#[46]⟩ 0 2 (ofL S), hl with
  | [p, q, r], _ =>
    refine ⟨p, q, r, rfl, ?_⟩
    rw [hL, ofL_data] at hd
    exact hd.symm
end Go.Proofs.YtjmdkhjfjlodmaaDoor
