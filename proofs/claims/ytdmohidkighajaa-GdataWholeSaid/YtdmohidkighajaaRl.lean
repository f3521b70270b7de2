/- The plain law of PartsRuns: the two glues alike. -/
import Derived.Test.YtdmohidkighajaaRz
import Derived.Test.YtdmohidkighajaaWl
namespace Go.Proofs.Ytdmohidkighajaa
open Go.RowKit
set_option linter.unusedVariables false
set_option linter.unusedSimpArgs false

/-- What the reference's Put does. -/
def Rg.put (R : Rg) (f : Fr) : ByteArray × Bool × Int × Rg :=
  if f.kind ≠ 4 then (⟨#[]⟩, false, 11, R)
  else if ¬ fitsP R.size f then (⟨#[]⟩, false, 3, R)
  else if R.is = true ∧ num f.vi f.vs < num R.vi R.vs then (⟨#[]⟩, false, 1, R)
  else (((R.beg f ((R.size + 15) / 16)).fin f).1, ((R.beg f ((R.size + 15) / 16)).fin f).2.1, ((R.beg f ((R.size + 15) / 16)).fin f).2.2.1, { R.beg f ((R.size + 15) / 16) with came := ((R.beg f ((R.size + 15) / 16)).fin f).2.2.2 })

/-- The program's glue and the reference's. -/
structure Alike (s : Gl) (R : Rg) : Prop where
  len : s.value.length = R.size
  z0 : 1 ≤ R.size
  z1 : R.size ≤ 64
  is : s.is = R.is
  vi : s.vi = R.vi
  vs : s.vs = R.vs
  bi : 0 ≤ R.vi ∧ R.vi ≤ 65535
  bs : 0 ≤ R.vs ∧ R.vs ≤ 4294967295
  ok : s.Ok
  no : R.is = false → R.came = [] ∧ s.came = 0 ∧ R.vi = 0 ∧ R.vs = 0
  yes : R.is = true → R.came.length = (R.size + 15) / 16
  one : ∀ i : Nat, i < R.came.length → bitAt s.came i = 1 → R.came[i]? = some (ofL (chunk s.value i))
  zero : ∀ i : Nat, i < R.came.length → bitAt s.came i = 0 → R.came[i]? = some ⟨#[]⟩
  rest : ∀ i : Nat, R.came.length ≤ i → i < 4 → bitAt s.came i = 0

theorem bit_two {c : Int} (h0 : 0 ≤ c) (h1 : c < 16) {i : Nat} (hi : i < 4) : bitAt c i = 0 ∨ bitAt c i = 1 := (set_of h0 h1 (show (0 : Int) ≤ i by omega) (by omega)).1

theorem Alike.came_len {s : Gl} {R : Rg} (A : Alike s R) : R.came.length ≤ 4 := by
  cases h : R.is
  · rw [(A.no h).1]; simp
  · have := A.yes h; have := A.z1; omega

theorem Alike.get {s : Gl} {R : Rg} (A : Alike s R) {i : Nat} (hi : i < R.came.length) : R.came[i]? = some (if bitAt s.came i = 1 then ofL (chunk s.value i) else ⟨#[]⟩) := by
  have := A.came_len
  rcases bit_two A.ok.c0 A.ok.c1 (i := i) (by omega) with h | h
  · rw [A.zero i hi h, h]; rfl
  · rw [A.one i hi h, if_pos h]

theorem Alike.size16 {s : Gl} {R : Rg} (A : Alike s R) : ∀ x ∈ R.came, x.size ≤ 16 := by
  intro x hx
  obtain ⟨i, hi, rfl⟩ := List.mem_iff_getElem.1 hx
  have := A.get hi
  rw [List.getElem?_eq_getElem hi] at this
  have := Option.some.inj this
  rw [this]
  split
  · rw [ofL_size, chunk_len]; omega
  · decide

theorem chunk_ne {v : List UInt8} {i : Nat} (h : i < (v.length + 15) / 16) : chunk v i ≠ [] := by
  intro e
  have := chunk_len v i
  rw [e] at this
  simp at this
  omega

theorem Alike.full {s : Gl} {R : Rg} (A : Alike s R) {i : Nat} (hi : i < R.came.length) : (R.came.getD i ⟨#[]⟩).data.toList ≠ [] ↔ bitAt s.came i = 1 := by
  have h4 := A.came_len
  have hlt : i < (s.value.length + 15) / 16 := by
    cases h : R.is
    · rw [(A.no h).1] at hi; simp at hi
    · rw [A.yes h] at hi; rw [A.len]; exact hi
  rw [List.getD_eq_getElem?_getD, A.get hi, Option.getD_some]
  constructor
  · intro h
    apply Classical.byContradiction
    intro hb
    rw [if_neg hb] at h
    exact h rfl
  · intro hb
    rw [if_pos hb, ofL_data]
    exact chunk_ne hlt

/-- Bits summed. -/
def sumB (c : Int) : Nat → Int
  | 0 => 0
  | k + 1 => sumB c k + bitAt c k
theorem Alike.count {s : Gl} {R : Rg} (A : Alike s R) : (cnt R.came : Int) = pop s.came := by
  have h4 := A.came_len
  have key : ∀ k, k ≤ R.came.length → (cnt (R.came.take k) : Int) = sumB s.came k := by
    intro k
    induction k with
    | zero => intro _; rfl
    | succ k ih =>
      intro hk
      have hk' : k < R.came.length := by omega
      have hf := A.full hk'
      have hstep : cnt (R.came.take (k + 1)) = cnt (R.came.take k) + (if (R.came.getD k ⟨#[]⟩).data.toList.isEmpty then 0 else 1) := by
        rw [List.take_add_one, List.getElem?_eq_getElem hk', List.getD_eq_getElem?_getD, List.getElem?_eq_getElem hk']
        unfold cnt
        rw [List.filter_append, List.length_append]
        cases hx : (R.came[k]).data.toList.isEmpty
        · simp only [Option.toList_some, List.filter_cons, hx, Option.getD_some]; rfl
        · simp only [Option.toList_some, List.filter_cons, hx, Option.getD_some]; rfl
      rw [hstep]
      show _ = sumB s.came k + bitAt s.came k
      rw [← ih (by omega)]
      rcases bit_two A.ok.c0 A.ok.c1 (i := k) (by omega) with h | h
      · have : (R.came.getD k ⟨#[]⟩).data.toList = [] := Classical.byContradiction fun hn => by have := hf.1 hn; omega
        rw [this, h]; simp
      · have : (R.came.getD k ⟨#[]⟩).data.toList.isEmpty = false := by
          have := hf.2 h
          cases hx : (R.came.getD k ⟨#[]⟩).data.toList.isEmpty
          · rfl
          · exact absurd (List.isEmpty_iff.1 hx) this
        rw [this, h]; simp
  have h1 := key R.came.length (Nat.le_refl _)
  rw [List.take_length] at h1
  rw [h1]
  have hp : pop s.came = sumB s.came 4 := by unfold pop; simp only [sumB]; simp
  rw [hp]
  have hr := A.rest
  have e : ∀ k, R.came.length ≤ k → k ≤ 4 → sumB s.came k = sumB s.came R.came.length := by
    intro k
    induction k with
    | zero => intro h _; rw [show R.came.length = 0 by omega]
    | succ k ih =>
      intro h h'
      by_cases hk : R.came.length ≤ k
      · show sumB s.came k + bitAt s.came k = _
        rw [ih hk (by omega), hr k hk (by omega)]; omega
      · rw [show R.came.length = k + 1 by omega]
  exact (e 4 h4 (Nat.le_refl _)).symm

theorem cnt_full (C : List ByteArray) : (cnt C ≤ C.length) ∧ (cnt C = C.length ↔ fullB C = true) := by
  unfold cnt fullB
  refine ⟨List.length_filter_le _ _, ?_⟩
  rw [List.length_filter_eq_length_iff, List.all_eq_true]

theorem join_of {v : List UInt8} {C : List ByteArray} (h : ∀ i, i < C.length → C[i]? = some (ofL (chunk v i))) (k : Nat) (hk : k ≤ C.length) : joinL (C.take k) = v.take (16 * k) := by
  induction k with
  | zero => simp [joinL]
  | succ k ih =>
    rw [join_snoc (h k (by omega)), ih (by omega), ofL_data]
    unfold chunk
    rw [show 16 * (k + 1) = 16 * k + 16 by omega, List.take_add]

/-- A part of the right length, pasted. -/
theorem chunk_pasted {s b : List UInt8} {i j : Nat} (hi : 16 * i < s.length) (hb : b.length = min 16 (s.length - 16 * i)) :
    chunk (pasteL s (16 * i) b) j = if j = i then b else chunk s j := by
  have hle : 16 * i + b.length ≤ s.length := by omega
  have hv : (pasteL s (16 * i) b).length = s.length := pasteL_length hle
  have hc : chunk (pasteL s (16 * i) b) i = b := by
    have := pasteL_cut hle
    unfold chunk
    by_cases h16 : b.length = 16
    · rw [h16] at this; exact this
    · rw [List.take_of_length_le (by rw [List.length_drop, hv]; omega)] at this
      rw [List.take_of_length_le (by rw [List.length_drop, hv]; omega)]
      exact this
  have := chunk_paste (s := s) (v := pasteL s (16 * i) b) (i := i) (j := j) hv.symm (by rw [hv]; exact hi)
  rw [hc] at this
  exact this

/-- Behind the begun version. -/
theorem Alike.fin {s : Gl} {R : Rg} (A : Alike s R) (hi : R.is = true) {f : Fr} (hf : fitsP s.value.length f) :
    ∃ (a : ByteArray) (b : Bool) (e : Int) (s' : Gl), ((if bitAt s.came f.part = 1 then ((⟨#[]⟩ : ByteArray), false, (14 : Int), s)
      else if s.n + 1 < f.parts then (⟨#[]⟩, false, 0, s.took f) else (ofL (s.took f).value, true, 0, s.took f)) : ByteArray × Bool × Int × Gl) = (a, b, e, s') ∧
      (R.fin f).1 = a ∧ (R.fin f).2.1 = b ∧ (R.fin f).2.2.1 = e ∧ Alike s' { R with came := (R.fin f).2.2.2 } := by
  have hp := fits_part hf
  have hat := fits_at hf
  obtain ⟨hf1, hf2, hf3⟩ := hf
  have hz0 := A.z0; have hz1 := A.z1; have hlen := A.len
  have hcl := A.yes hi
  rw [nParts_yes (by omega) (by omega)] at hf1
  have hpN : f.part < (R.size + 15) / 16 := by
    unfold pLen at hf2
    split at hf2
    · rename_i h
      rw [nParts_yes (by omega) (by omega)] at h
      omega
    · omega
  obtain ⟨P, hP⟩ : ∃ P : Nat, f.part = P := ⟨f.part.toNat, by omega⟩
  rw [hP] at hp hpN hat hf2 hf3 ⊢
  have hPl : P < R.came.length := by omega
  have hfull := A.full hPl
  have hblen : f.bytes.data.toList.length = min 16 (s.value.length - 16 * P) := by
    rw [size_data]
    have e : pLen s.value.length P = min 16 ((s.value.length : Int) - P * 16) := if_pos ⟨by omega, by rw [nParts_yes (by omega) (by omega)]; omega⟩
    rw [e] at hf3
    omega
  by_cases hb : bitAt s.came P = 1
  · rw [if_pos hb]
    have hfin : R.fin f = (⟨#[]⟩, false, 14, R.came) := by
      unfold Rg.fin
      rw [hP, Int.toNat_natCast, if_pos (hfull.2 hb)]
    rw [hfin]
    exact ⟨_, _, _, _, rfl, rfl, rfl, rfl, A⟩
  · rw [if_neg hb]
    have hb0 : bitAt s.came P = 0 := (bit_two A.ok.c0 A.ok.c1 (by omega)).resolve_right hb
    have hfn : ¬ (R.came.getD P ⟨#[]⟩).data.toList ≠ [] := fun h => hb (hfull.1 h)
    obtain ⟨C, hC⟩ : ∃ C, R.came.set P f.bytes = C := ⟨_, rfl⟩
    have hfin : R.fin f = if fullB C = true then (ofL (joinL C), true, 0, C) else (⟨#[]⟩, false, 0, C) := by
      unfold Rg.fin
      rw [hP, Int.toNat_natCast, if_neg hfn, hC]
    have hCl : C.length = R.came.length := by rw [← hC, List.length_set]
    have e16 : ((f.part * 16).toNat) = 16 * P := by rw [hP]; omega
    have hval : (s.took f).value = pasteL s.value (16 * P) f.bytes.data.toList := by
      show pasteL s.value ((f.part * 16).toNat) f.bytes.data.toList = _
      rw [e16]
    have hvl : (s.took f).value.length = s.value.length := by rw [hval, pasteL_length (by omega)]
    have hcame : (s.took f).came = setAt s.came P := by show setAt s.came f.part = _; rw [hP]
    have hok : (s.took f).Ok := took_ok A.ok ⟨by rw [hf1, nParts_yes (by omega) (by omega)], by rw [hP]; exact hf2, by rw [hP]; exact hf3⟩ (by rw [hP]; exact hb0)
    have hch : ∀ j, chunk (s.took f).value j = if j = P then f.bytes.data.toList else chunk s.value j := fun j => by rw [hval]; exact chunk_pasted (by omega) hblen
    have hbs : ∀ j : Nat, j < 4 → bitAt (s.took f).came j = if j = P then 1 else bitAt s.came j := fun j hj => by
      rw [hcame, bit_set A.ok.c0 A.ok.c1 (by omega) (by omega) (by omega) (by omega)]
      by_cases h : j = P
      · rw [if_pos h, if_pos (by omega)]
      · rw [if_neg h, if_neg (by omega)]
    have A' : Alike (s.took f) { R with came := C } := by
      refine ⟨hvl.trans A.len, A.z0, A.z1, A.is, A.vi, A.vs, A.bi, A.bs, hok, (fun h => by have h : R.is = false := h; rw [hi] at h; cases h), fun _ => hCl.trans hcl, ?_, ?_, ?_⟩
      · intro j hj hbit
        have hj : j < R.came.length := by rw [← hCl]; exact hj
        show C[j]? = _
        rw [hch, ← hC]
        by_cases h : j = P
        · subst h
          rw [List.getElem?_set_self hj, if_pos rfl, ofL_of]
        · rw [List.getElem?_set_ne (Ne.symm h), if_neg h]
          rw [hbs j (by omega), if_neg h] at hbit
          exact A.one j hj hbit
      · intro j hj hbit
        have hj : j < R.came.length := by rw [← hCl]; exact hj
        show C[j]? = _
        rw [← hC]
        by_cases h : j = P
        · rw [hbs j (by omega), if_pos h] at hbit
          omega
        · rw [List.getElem?_set_ne (Ne.symm h)]
          rw [hbs j (by omega), if_neg h] at hbit
          exact A.zero j hj hbit
      · intro j hj hj4
        have hj : R.came.length ≤ j := by rw [← hCl]; exact hj
        rw [hbs j hj4, if_neg (by omega)]
        exact A.rest j hj hj4
    have hcnt := A'.count
    have hcnt : (cnt C : Int) = pop (s.took f).came := hcnt
    have hn : (s.took f).n = pop (s.took f).came := hok.n
    have hn1 : (s.took f).n = s.n + 1 := rfl
    have hcf := cnt_full C
    by_cases hm : s.n + 1 < f.parts
    · rw [if_pos hm]
      have hnf : ¬ fullB C = true := fun h => by have := hcf.2.2 h; omega
      rw [hfin, if_neg hnf]
      exact ⟨_, _, _, _, rfl, rfl, rfl, rfl, A'⟩
    · rw [if_neg hm]
      have hff : fullB C = true := hcf.2.1 (by omega)
      have hj : joinL C = (s.took f).value := by
        have hall : ∀ i, i < C.length → C[i]? = some (ofL (chunk (s.took f).value i)) := by
          intro i hiC
          have hg := A'.get (i := i) hiC
          have hg : C[i]? = _ := hg
          rw [hg]
          split
          · rfl
          · rename_i hb1
            exfalso
            have := full_not (C := C) (k := i) (s := ⟨#[]⟩) (by rw [hg, if_neg hb1]) rfl
            rw [this] at hff
            cases hff
        have := join_of hall C.length (Nat.le_refl _)
        rw [List.take_length, List.take_of_length_le (by omega)] at this
        exact this
      rw [hfin, if_pos hff, hj]
      exact ⟨_, _, _, _, rfl, rfl, rfl, rfl, A'⟩

theorem num_cmp {a b c d : Int} (hb : 0 ≤ b ∧ b ≤ 4294967295) (hd : 0 ≤ d ∧ d ≤ 4294967295) : (cmpV a b c d < 0 ↔ num a b < num c d) ∧ (cmpV a b c d = 0 ↔ a = c ∧ b = d) := by
  rw [num_eq, num_eq]; exact cmpV_num hb hd

/-- Put: the two answer alike, and are alike behind it. -/
theorem Alike.put {s : Gl} {R : Rg} (A : Alike s R) (f : Fr) (hvi : 0 ≤ f.vi ∧ f.vi ≤ 65535) (hvs : 0 ≤ f.vs ∧ f.vs ≤ 4294967295) :
    ∃ (a : ByteArray) (b : Bool) (e : Int) (s' : Gl) (R' : Rg), s.put f = (a, b, e, s') ∧ R.put f = (a, b, e, R') ∧ Alike s' R' := by
  unfold Gl.put Rg.put
  by_cases hk : f.kind ≠ 4
  · rw [if_pos hk, if_pos hk]; exact ⟨_, _, _, _, _, rfl, rfl, A⟩
  · rw [if_neg hk, if_neg hk, A.len]
    by_cases hf : ¬ fitsP R.size f
    · rw [if_pos hf, if_pos hf]; exact ⟨_, _, _, _, _, rfl, rfl, A⟩
    · rw [if_neg hf, if_neg hf]
      have hfit : fitsP R.size f := Classical.byContradiction hf
      have hc := num_cmp (a := f.vi) (c := R.vi) hvs A.bs
      rw [A.is, A.vi, A.vs]
      by_cases ho : R.is = true ∧ cmpV f.vi f.vs R.vi R.vs < 0
      · rw [if_pos ho, if_pos (show R.is = true ∧ num f.vi f.vs < num R.vi R.vs from ⟨ho.1, hc.1.1 ho.2⟩)]; exact ⟨_, _, _, _, _, rfl, rfl, A⟩
      · rw [if_neg ho, if_neg (show ¬ (R.is = true ∧ num f.vi f.vs < num R.vi R.vs) from fun h => ho ⟨h.1, hc.1.2 h.2⟩)]
        have hc' := num_cmp (a := R.vi) (c := f.vi) A.bs hvs
        by_cases hs : R.is = true ∧ cmpV f.vi f.vs R.vi R.vs = 0
        · have hbg : R.begins f = false := by
            unfold Rg.begins
            rw [hs.1]
            have e := hc.2.1 hs.2
            rw [e.1, e.2]
            simp
          have hbe : R.beg f ((R.size + 15) / 16) = R := by unfold Rg.beg; rw [hbg]; rfl
          dsimp only
          rw [if_pos hs, hbe]
          obtain ⟨a, b, e, s', h1, h2, h3, h4, h5⟩ := A.fin hs.1 (by rw [A.len]; exact hfit)
          rw [h2, h3, h4]
          exact ⟨a, b, e, s', _, h1, rfl, h5⟩
        · have hbg : R.begins f = true := by
            unfold Rg.begins
            cases hi : R.is
            · rfl
            · have h1 : ¬ cmpV f.vi f.vs R.vi R.vs < 0 := fun h => ho ⟨hi, h⟩
              have h2 : ¬ cmpV f.vi f.vs R.vi R.vs = 0 := fun h => hs ⟨hi, h⟩
              have h3 : ¬ num f.vi f.vs < num R.vi R.vs := fun h => h1 (hc.1.2 h)
              have h4 : ¬ (f.vi = R.vi ∧ f.vs = R.vs) := fun h => h2 (hc.2.2 h)
              have h5 : num R.vi R.vs < num f.vi f.vs := by
                rw [num_eq, num_eq] at h3 ⊢
                have := A.bs; have := A.bi
                omega
              simp [h5]
          have hbe : R.beg f ((R.size + 15) / 16) = R.start f ((R.size + 15) / 16) := by unfold Rg.beg; rw [hbg]; rfl
          dsimp only
          rw [if_neg hs, hbe]
          have A1 : Alike (s.start f) (R.start f ((R.size + 15) / 16)) := by
            refine ⟨A.len, A.z0, A.z1, rfl, rfl, rfl, hvi, hvs, start_ok s f, (fun h => by cases h), (fun _ => by simp [Rg.start]), ?_, ?_, ?_⟩
            · intro i hi hb
              have h4 : i < 4 := by have := A.z1; simp [Rg.start] at hi; omega
              have : bitAt (s.start f).came i = 0 := bit_zero_all h4
              omega
            · intro i hi _
              have hi : i < (R.size + 15) / 16 := by simpa [Rg.start] using hi
              simp [Rg.start, hi]
            · intro i _ h4
              exact bit_zero_all h4
          obtain ⟨a, b, e, s', h1, h2, h3, h4, h5⟩ := A1.fin rfl (f := f) (by rw [A1.len]; exact hfit)
          rw [h2, h3, h4]
          exact ⟨a, b, e, s', _, h1, rfl, h5⟩

/-- What the reference's glue is where it is made. -/
def newR (n : Nat) : Rg := ⟨n, false, 0, 0, none, 0, [], 58, []⟩
theorem Alike.fresh {v : List UInt8} {n : Nat} (hv : v.length = n) (h1 : 1 ≤ n) (h2 : n ≤ 64) : Alike { value := v, vi := 0, vs := 0, is := false, came := 0, n := 0 } (newR n) :=
  ⟨hv, h1, h2, rfl, rfl, rfl, ⟨Int.le_refl 0, show (0 : Int) ≤ 65535 by decide⟩, ⟨Int.le_refl 0, show (0 : Int) ≤ 4294967295 by decide⟩, zero_ok v, (fun _ => ⟨rfl, rfl, rfl, rfl⟩), (fun h => by cases h), (fun i h => by simp [newR] at h), (fun i h => by simp [newR] at h), (fun i _ h => bit_zero_all h)⟩

/-- The reference's Put, whichever way. -/
theorem rput_any {w : World} {r : Nat} {R : Rg} {s : Gl} (k : RAt w r R) (A : Alike s R) (f : Fr) (ok : FrOk f) (hvi : 0 ≤ f.vi ∧ f.vi ≤ 65535) (hvs : 0 ≤ f.vs ∧ f.vs ≤ 4294967295) {a : ByteArray} {b : Bool} {c : Int} {R' : Rg} (he : R.put f = (a, b, c, R')) :
    Calls Try.prog 32 #[.pointer (some ⟨r, 0, none⟩), .agg (frV f)] w fun e w' => e = rR a b c ∧ RPost w w' r R R' := by
  have same : ∀ w', Below w.heap.size w w' → RPost w w' r R R := fun w' hb => ⟨R.base, R.cap, k.keep hb, ⟨hb.os, hb.tape, hb.output, hb.size, fun k hk _ _ => hb.block k hk⟩, .inl ⟨rfl, rfl⟩⟩
  unfold Rg.put at he
  by_cases hk : f.kind ≠ 4
  · rw [if_pos hk] at he
    simp only [Prod.mk.injEq] at he
    obtain ⟨rfl, rfl, rfl, rfl⟩ := he
    exact (rput_kind k f hk).mono fun e w' ⟨he, hb⟩ => ⟨he, same w' hb⟩
  · rw [if_neg hk] at he
    have hk : f.kind = 4 := Classical.byContradiction hk
    by_cases hf : ¬ fitsP R.size f
    · rw [if_pos hf] at he
      simp only [Prod.mk.injEq] at he
      obtain ⟨rfl, rfl, rfl, rfl⟩ := he
      exact (rput_form k A.z0 A.z1 f ok hk hf).mono fun e w' ⟨he, hb⟩ => ⟨he, same w' hb⟩
    · rw [if_neg hf] at he
      have hf : fitsP R.size f := Classical.byContradiction hf
      by_cases ho : R.is = true ∧ num f.vi f.vs < num R.vi R.vs
      · rw [if_pos ho] at he
        simp only [Prod.mk.injEq] at he
        obtain ⟨rfl, rfl, rfl, rfl⟩ := he
        exact (rput_old k A.z0 A.z1 f ok ⟨hvi.1, hvi.2, hvs.1, hvs.2⟩ ⟨A.bi.1, A.bi.2, A.bs.1, A.bs.2⟩ hk hf ho.1 ho.2).mono fun e w' ⟨he, hb⟩ => ⟨he, same w' hb⟩
      · rw [if_neg ho] at he
        simp only [Prod.mk.injEq] at he
        obtain ⟨rfl, rfl, rfl, rfl⟩ := he
        exact rput_go k A.z0 A.z1 f ok ⟨hvi.1, hvi.2, hvs.1, hvs.2⟩ ⟨A.bi.1, A.bi.2, A.bs.1, A.bs.2⟩ hk hf ho A.yes A.size16
end Go.Proofs.Ytdmohidkighajaa
