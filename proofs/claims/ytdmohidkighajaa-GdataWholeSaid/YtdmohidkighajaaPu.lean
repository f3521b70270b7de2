/- The plain law: a value's frames, put together in whatever order. -/
import Derived.Test.YtdmohidkighajaaFs
namespace Go.Proofs.Ytdmohidkighajaa
open Go.RowKit
set_option linter.unusedVariables false
set_option linter.unusedSimpArgs false

theorem chunk_get (l : List UInt8) (p j : Nat) : (chunk l p)[j]? = if j < 16 then l[16 * p + j]? else none := by
  unfold chunk
  rw [List.getElem?_take]
  split
  · rw [List.getElem?_drop]
  · rfl
theorem chunk_eq {a b : List UInt8} (h : a.length = b.length) (hc : ∀ i : Nat, (i : Int) < nParts b.length → chunk a i = chunk b i) (hb : b.length ≤ 64) : a = b := by
  apply List.ext_getElem?
  intro m
  by_cases hm : m < b.length
  · have hp : ((m / 16 : Nat) : Int) < nParts b.length := by
      rw [nParts_yes (by omega) (by omega)]
      omega
    have h1 := congrArg (fun l => l[m % 16]?) (hc _ hp)
    simp only [chunk_get] at h1
    rw [if_pos (Nat.mod_lt _ (by decide)), if_pos (Nat.mod_lt _ (by decide)), Nat.div_add_mod] at h1
    exact h1
  · rw [List.getElem?_eq_none (by omega), List.getElem?_eq_none (by omega)]
theorem chunk_len (l : List UInt8) (p : Nat) : (chunk l p).length = min 16 (l.length - 16 * p) := by
  unfold chunk
  rw [List.length_take, List.length_drop]
theorem chunk_paste {s v : List UInt8} {i j : Nat} (hs : s.length = v.length) (hi : 16 * i < v.length) :
    chunk (pasteL s (16 * i) (chunk v i)) j = if j = i then chunk v i else chunk s j := by
  have hl := chunk_len v i
  have hle : 16 * i + (chunk v i).length ≤ s.length := by rw [hl]; omega
  apply List.ext_getElem?
  intro m
  rw [chunk_get]
  by_cases hm : m < 16
  · rw [if_pos hm, pasteL_get hle]
    by_cases hj : j = i
    · subst hj
      rw [if_pos rfl, if_neg (by omega)]
      split
      · rw [Nat.add_sub_cancel_left]
      · rw [chunk_get, if_pos hm]
        have : v.length ≤ 16 * j + m := by
          rename_i h
          rw [hl] at h
          omega
        rw [List.getElem?_eq_none (by omega), List.getElem?_eq_none (by omega)]
    · rw [if_neg hj, chunk_get s, if_pos hm]
      split
      · rfl
      · rw [if_neg]
        rw [hl]
        omega
  · rw [if_neg hm]
    split
    · rw [chunk_get, if_neg hm]
    · rw [chunk_get, if_neg hm]

theorem cmpV_self (a b : Int) : cmpV a b a b = 0 := by unfold cmpV cmpI orI; simp

/-- The glue behind some of a value's frames. -/
structure PIs (f : Fr) (v : List UInt8) (left : List Nat) (s : Gl) : Prop where
  ok : s.Ok
  len : s.value.length = v.length
  nd : left.Nodup
  lt : ∀ i ∈ left, (i : Int) < nParts v.length
  is : s.is = true
  vi : s.vi = f.vi
  vs : s.vs = f.vs
  came : ∀ i : Nat, (i : Int) < nParts v.length → (bitAt s.came i = 0 ↔ i ∈ left)
  piece : ∀ i : Nat, (i : Int) < nParts v.length → i ∉ left → chunk s.value i = chunk v i
  n : s.n + left.length = nParts v.length
/-- The same, or none came. -/
def PInv (f : Fr) (v : List UInt8) (left : List Nat) (s : Gl) : Prop := PIs f v left s ∨ (s.is = false ∧ s.Ok ∧ s.value.length = v.length ∧ left = List.range (nParts v.length).toNat)

theorem part_facts {v : List UInt8} {i : Nat} (h : (i : Int) < nParts v.length) : 1 ≤ v.length ∧ v.length ≤ 64 ∧ 16 * i < v.length ∧ i < 4 ∧ nParts v.length = ((v.length : Int) + 15) / 16 := by
  have hn : 1 ≤ (v.length : Int) ∧ (v.length : Int) ≤ 64 := by
    apply Classical.byContradiction
    intro hh
    rw [nParts_no hh] at h
    omega
  have h2 := h
  rw [nParts_yes hn.1 hn.2] at h2
  exact ⟨by omega, by omega, by omega, by omega, nParts_yes hn.1 hn.2⟩
theorem of_fits {f : Fr} {v : List UInt8} {i : Nat} (h : (i : Int) < nParts v.length) : fitsP v.length (f.of v (nParts v.length) i) := by
  have hp := part_facts h
  have e : pLen v.length i = min 16 ((v.length : Int) - i * 16) := if_pos ⟨by omega, h⟩
  refine ⟨rfl, ?_, ?_⟩
  · show 0 < pLen v.length (i : Int)
    rw [e]; omega
  · show ((ofL (chunk v i)).size : Int) = pLen v.length (i : Int)
    rw [e, ofL_size, chunk_len]; omega
theorem bit_zero_all {i : Nat} (h : i < 4) : bitAt 0 (i : Int) = 0 := by
  have : ∀ p : Fin 4, bitAt 0 (p.val : Int) = 0 := by decide +kernel
  exact this ⟨i, h⟩

theorem took_next {f : Fr} {v : List UInt8} {left : List Nat} {s : Gl} (I : PIs f v left s) {k i : Nat} (hk : left[k]? = some i) : bitAt s.came i = 0 ∧ PIs f v (left.eraseIdx k) (s.took (f.of v (nParts v.length) i)) ∧ s.n + left.length = nParts v.length := by
  have hmem : i ∈ left := List.mem_of_getElem? hk
  have hi := I.lt i hmem
  have hp := part_facts hi
  have hf : fitsP s.value.length (f.of v (nParts v.length) i) := by rw [I.len]; exact of_fits hi
  have hb : bitAt s.came i = 0 := (I.came i hi).2 hmem
  have hkl : k < left.length := (List.getElem?_eq_some_iff.1 hk).1
  have hki : left[k] = i := (List.getElem?_eq_some_iff.1 hk).2
  have hme : ∀ j, j ∈ left.eraseIdx k ↔ j ∈ left ∧ j ≠ i := by
    intro j
    rw [List.mem_eraseIdx_iff_getElem]
    constructor
    · rintro ⟨m, hm, hne, rfl⟩
      refine ⟨List.getElem_mem hm, fun e => hne ?_⟩
      rw [← hki] at e
      exact (List.getElem_inj I.nd).1 e
    · rintro ⟨hj, hne⟩
      obtain ⟨m, hm, rfl⟩ := List.mem_iff_getElem.1 hj
      refine ⟨m, hm, fun e => hne ?_, rfl⟩
      subst e
      exact hki
  have hlen : (left.eraseIdx k).length = left.length - 1 := List.length_eraseIdx_of_lt hkl
  have e16 : (((i : Int) * 16).toNat) = 16 * i := by omega
  have hval : (s.took (f.of v (nParts v.length) i)).value = pasteL s.value (16 * i) (chunk v i) := by
    show pasteL s.value (((i : Int) * 16).toNat) (ofL (chunk v i)).data.toList = _
    rw [e16, ofL_data]
  refine ⟨hb, ⟨took_ok I.ok hf hb, ?_, I.nd.eraseIdx k, ?_, I.is, I.vi, I.vs, ?_, ?_, ?_⟩, I.n⟩
  · rw [Gl.took_len hf, I.len]
  · exact fun j hj => I.lt j ((hme j).1 hj).1
  · intro j hj
    have hpj := part_facts hj
    show bitAt (setAt s.came (i : Int)) (j : Int) = 0 ↔ _
    rw [bit_set I.ok.c0 I.ok.c1 (by omega) (by omega) (by omega) (by omega), hme]
    by_cases hji : j = i
    · subst hji
      simp
    · rw [if_neg (by omega), I.came j hj]
      simp [hji]
  · intro j hj hnot
    rw [hval, chunk_paste I.len hp.2.2.1]
    by_cases hji : j = i
    · subst hji; rw [if_pos rfl]
    · rw [if_neg hji]
      exact I.piece j hj (fun hm => hnot ((hme j).2 ⟨hm, hji⟩))
  · show s.n + 1 + ((left.eraseIdx k).length : Int) = _
    rw [hlen]
    have := I.n
    omega

/-- What Put answers. -/
def partR (last : Bool) (v : List UInt8) : ByteArray := if last then ofL v else ⟨#[]⟩
theorem put_next {f : Fr} {v : List UInt8} {left : List Nat} {s : Gl} (I : PInv f v left s) {k i : Nat} (hk : left[k]? = some i) :
    ∃ s', s.put (f.of v (nParts v.length) i) = (partR (decide (left.length = 1)) v, decide (left.length = 1), 0, s') ∧ PInv f v (left.eraseIdx k) s' := by
  have key : ∀ s1 : Gl, PIs f v left s1 → ∃ s', ((if bitAt s1.came (i : Int) = 1 then ((⟨#[]⟩ : ByteArray), false, (14 : Int), s1)
      else if s1.n + 1 < nParts v.length then (⟨#[]⟩, false, 0, s1.took (f.of v (nParts v.length) i)) else (ofL (s1.took (f.of v (nParts v.length) i)).value, true, 0, s1.took (f.of v (nParts v.length) i))) : ByteArray × Bool × Int × Gl) =
      (partR (decide (left.length = 1)) v, decide (left.length = 1), 0, s') ∧ PInv f v (left.eraseIdx k) s' := by
    intro s1 I1
    obtain ⟨hb, I2, hn⟩ := took_next I1 hk
    have hkl : k < left.length := (List.getElem?_eq_some_iff.1 hk).1
    rw [if_neg (by rw [hb]; decide)]
    by_cases hl : left.length = 1
    · rw [if_neg (by omega)]
      have he : left.eraseIdx k = [] := List.eq_nil_of_length_eq_zero (by rw [List.length_eraseIdx_of_lt hkl]; omega)
      have hi := I1.lt i (List.mem_of_getElem? hk)
      have hv : (s1.took (f.of v (nParts v.length) i)).value = v := chunk_eq I2.len (fun j hj => I2.piece j hj (by rw [he]; simp)) (part_facts hi).2.1
      exact ⟨_, by rw [hv]; simp [hl, partR], .inl I2⟩
    · rw [if_pos (by omega)]
      exact ⟨_, by simp [hl, partR], .inl I2⟩
  have hkl : k < left.length := (List.getElem?_eq_some_iff.1 hk).1
  have hmem : i ∈ left := List.mem_of_getElem? hk
  unfold Gl.put
  rw [if_neg (by show ¬ ((4 : Int) ≠ 4); decide)]
  rcases I with I | ⟨his, hok, hlen, hleft⟩
  · have hi := I.lt i hmem
    rw [if_neg (by rw [I.len]; exact fun h => h (of_fits hi))]
    rw [if_neg (by
      rintro ⟨_, h⟩
      have e : cmpV (f.of v (nParts v.length) i).vi (f.of v (nParts v.length) i).vs s.vi s.vs = 0 := by rw [I.vi, I.vs]; exact cmpV_self _ _
      omega)]
    have e : cmpV (f.of v (nParts v.length) i).vi (f.of v (nParts v.length) i).vs s.vi s.vs = 0 := by rw [I.vi, I.vs]; exact cmpV_self _ _
    have hx : (if s.is = true ∧ cmpV (f.of v (nParts v.length) i).vi (f.of v (nParts v.length) i).vs s.vi s.vs = 0 then s else s.start (f.of v (nParts v.length) i)) = s := if_pos ⟨I.is, e⟩
    dsimp only
    rw [hx]
    exact key s I
  · have hi : (i : Int) < nParts v.length := by
      rw [hleft] at hmem
      have := List.mem_range.1 hmem
      omega
    rw [if_neg (by rw [hlen]; exact fun h => h (of_fits hi))]
    rw [if_neg (by rw [his]; simp)]
    have hx : (if s.is = true ∧ cmpV (f.of v (nParts v.length) i).vi (f.of v (nParts v.length) i).vs s.vi s.vs = 0 then s else s.start (f.of v (nParts v.length) i)) = s.start (f.of v (nParts v.length) i) := if_neg (by rw [his]; simp)
    dsimp only
    rw [hx]
    refine key _ ⟨start_ok _ _, hlen, ?_, ?_, rfl, rfl, rfl, ?_, ?_, ?_⟩
    · rw [hleft]; exact List.nodup_range
    · intro j hj
      rw [hleft] at hj
      have := List.mem_range.1 hj
      omega
    · intro j hj
      show bitAt 0 (j : Int) = 0 ↔ _
      rw [bit_zero_all (part_facts hj).2.2.2.1, hleft, List.mem_range]
      simp
      omega
    · intro j hj hn
      exact absurd (by rw [hleft, List.mem_range]; omega) hn
    · show (0 : Int) + left.length = _
      rw [hleft, List.length_range]
      have := nParts_le v.length
      omega

end Go.Proofs.Ytdmohidkighajaa
