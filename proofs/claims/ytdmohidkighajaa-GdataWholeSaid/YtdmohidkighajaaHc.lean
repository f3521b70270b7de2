/- The plain law of GdataComes: parts that come one behind the other. -/
import Derived.Test.YtdmohidkighajaaGm
import Derived.Test.YtdmohidkighajaaWl
namespace Go.Proofs.Ytdmohidkighajaa
open Go.RowKit
set_option linter.unusedVariables false
set_option linter.unusedSimpArgs false

/-- A value is whole behind. -/
def DoneAt (s : Sb) (P : Pb) : Prop := s.waits = true ∧ s.behind = P.way ∧ s.bi = 1 ∧ s.bs = P.ws
/-- How far a publisher and a subscriber to whom all comes are. -/
structure CInv (n : Nat) (P : Pb) (G : Gl) (s : Sb) : Prop where
  ok : P.Ok
  sz : P.size = n
  li : P.li = 1
  go : G.Ok
  gl : G.value.length = n
  wl : P.ws ≤ P.ls
  at_ : (P.left = 0 ∧ G.is = false ∧ P.ws = 0) ∨
    (P.wi = 1 ∧ P.way.size = n ∧ 1 ≤ P.ws ∧ (P.ws = P.ls → P.way = P.last) ∧
      ∃ L, PIs (fV 1 P.ws) P.way.data.toList L G ∧ (L = [] ∨ (0 < P.left ∧ L = (List.range (nParts n).toNat).drop P.next.toNat)) ∧ (L = [] → DoneAt s P))

theorem CInv.new {n : Nat} (h1 : 1 ≤ n) (h2 : n ≤ 64) (s : Sb) : CInv n (newPb n 1) { value := List.replicate n 0, vi := 0, vs := 0, is := false, came := 0, n := 0 } s :=
  ⟨newPb_ok h1 h2 ⟨by decide, by decide⟩, rfl, rfl, zero_ok _, by simp, Int.le_refl 0, .inl ⟨rfl, rfl, rfl⟩⟩

theorem CInv.commit {n : Nat} {P : Pb} {G : Gl} {s : Sb} (I : CInv n P G s) (v : ByteArray) (hv : v.size = n) (hm : P.ls < 4294967295) : P.commit v = (0, { P with last := v, ls := P.ls + 1 }) ∧ CInv n { P with last := v, ls := P.ls + 1 } G s := by
  have hc : P.commit v = (0, { P with last := v, ls := P.ls + 1 }) := by
    unfold Pb.commit
    rw [if_neg (by rw [I.sz, hv]; simp), if_neg (by omega)]
  have hok := commit_ok I.ok v
  rw [hc] at hok
  have hw := I.wl
  refine ⟨hc, hok, I.sz, I.li, I.go, I.gl, by show P.ws ≤ P.ls + 1; omega, ?_⟩
  rcases I.at_ with h | ⟨h1, h2, h3, h4, h5⟩
  · exact .inl h
  · exact .inr ⟨h1, h2, h3, fun e => by (have e : P.ws = P.ls + 1 := e; omega), h5⟩

/-- A glue that begins a value. -/
theorem start_is {f : Fr} {v : List UInt8} {s : Gl} (hl : s.value.length = v.length) (F : Fr) (h1 : F.vi = f.vi) (h2 : F.vs = f.vs) : PIs f v (List.range (nParts v.length).toNat) (s.start F) := by
  refine ⟨start_ok _ _, hl, List.nodup_range, ?_, rfl, h1, h2, ?_, ?_, ?_⟩
  · intro j hj
    have := List.mem_range.1 hj
    omega
  · intro j hj
    show bitAt 0 (j : Int) = 0 ↔ _
    rw [bit_zero_all (part_facts hj).2.2.2.1, List.mem_range]
    simp
    omega
  · intro j hj hn
    exact absurd (by rw [List.mem_range]; omega) hn
  · show (0 : Int) + (List.range (nParts v.length).toNat).length = _
    rw [List.length_range]
    have := nParts_le v.length
    omega

/-- A part at a glue at its version, which part is the first of those that are left, or that came. -/
theorem put_part {f : Fr} {v : List UInt8} {L : List Nat} {s : Gl} (I : PIs f v L s) {i : Nat} (hi : (i : Int) < nParts v.length) (hL : L = [] ∨ L[0]? = some i) :
    ∃ (a : ByteArray) (b : Bool) (e : Int) (s' : Gl), ((if bitAt s.came (i : Int) = 1 then ((⟨#[]⟩ : ByteArray), false, (14 : Int), s)
      else if s.n + 1 < nParts v.length then (⟨#[]⟩, false, 0, s.took (f.of v (nParts v.length) i)) else (ofL (s.took (f.of v (nParts v.length) i)).value, true, 0, s.took (f.of v (nParts v.length) i))) : ByteArray × Bool × Int × Gl) = (a, b, e, s') ∧
      PIs f v (L.drop 1) s' ∧ (e = 0 ∨ e = 14) ∧ (b = true → a = ofL v ∧ L.drop 1 = []) ∧ (b = false → L.drop 1 = [] → L = []) := by
  rcases hL with rfl | hk
  · have hp := part_facts hi
    have hb : bitAt s.came (i : Int) = 1 := by
      rcases (set_of I.ok.c0 I.ok.c1 (show (0 : Int) ≤ i by omega) (by omega)).1 with h | h
      · exact absurd ((I.came i hi).1 h) (by simp)
      · exact h
    rw [if_pos hb]
    exact ⟨_, _, _, _, rfl, I, .inr rfl, fun h => (by cases h), fun _ _ => rfl⟩
  · obtain ⟨hb, I2, hn⟩ := took_next I hk
    have he : L.eraseIdx 0 = L.drop 1 := by cases L <;> rfl
    rw [he] at I2
    have hkl : 0 < L.length := (List.getElem?_eq_some_iff.1 hk).1
    rw [if_neg (by rw [hb]; decide)]
    by_cases hl : L.length = 1
    · rw [if_neg (by omega)]
      have hd : L.drop 1 = [] := List.drop_eq_nil_of_le (by omega)
      have hv : (s.took (f.of v (nParts v.length) i)).value = v := chunk_eq I2.len (fun j hj => I2.piece j hj (by rw [hd]; simp)) (part_facts hi).2.1
      exact ⟨_, _, _, _, rfl, I2, .inl rfl, fun _ => ⟨by rw [hv], hd⟩, fun h => (by cases h)⟩
    · rw [if_pos (by omega)]
      refine ⟨_, _, _, _, rfl, I2, .inl rfl, fun h => (by cases h), fun _ h => ?_⟩
      have := congrArg List.length h
      rw [List.length_drop] at this
      simp at this
      omega

theorem frame_ok {P : Pb} (ok : P.Ok) (h : 0 < P.ls) : FrOk P.frame := by
  obtain ⟨b1, b2, b3, b4, b5, b6, b7⟩ := begun_facts ok h
  have hn := nParts_le P.size
  refine ⟨⟨by show (0 : Int) ≤ (P.begun.next.toNat : Int); omega, by show (P.begun.next.toNat : Int) ≤ 255; omega⟩, ⟨by show (0 : Int) ≤ nParts P.size; omega, by show nParts P.size ≤ 255; omega⟩, ?_⟩
  show (ofL (chunk P.begun.way.data.toList P.begun.next.toNat)).size ≤ _
  rw [ofL_size, chunk_len]
  omega

/-- The next part goes and comes. -/
theorem CInv.step {n : Nat} {P : Pb} {G : Gl} {s : Sb} (I : CInv n P G s) (hs : 0 < P.ls) :
    ∃ (a : ByteArray) (b : Bool) (e : Int) (G' : Gl), G.put P.frame = (a, b, e, G') ∧ (e = 0 ∨ e = 14) ∧ CInv n P.step G' (s.took a b e P.frame) := by
  obtain ⟨b1, b2, b3, b4, b5, b6, b7⟩ := begun_facts I.ok hs
  have hok := step_ok I.ok hs
  have hli := I.li
  obtain ⟨m, hm⟩ : ∃ m : Nat, P.begun.next = m := ⟨P.begun.next.toNat, by omega⟩
  obtain ⟨V, hV⟩ : ∃ V, P.begun.way.data.toList = V := ⟨_, rfl⟩
  have hVl : V.length = n := by
    have := I.sz
    have e : (V.length : Int) = n := by rw [← hV, size_data, b4, this]
    omega
  have hnp : nParts V.length = nParts P.size := by rw [hVl, I.sz]
  have hmi : (m : Int) < nParts V.length := by rw [hnp]; omega
  have hwi : P.begun.wi = 1 := by
    unfold Pb.begun
    split
    · exact hli
    · rename_i h0
      rcases I.at_ with ⟨h, _⟩ | ⟨h, _⟩
      · exact absurd h h0
      · exact h
  have hF : P.frame = (fV 1 P.begun.ws).of V (nParts V.length) m := by
    unfold Pb.frame
    rw [hV, hm, hwi, hnp, Int.toNat_natCast]
  have hfit : fitsP G.value.length P.frame := by
    rw [I.gl, ← hVl, hF]; exact of_fits hmi
  have hkind : P.frame.kind = 4 := rfl
  have hvi : P.frame.vi = 1 := hwi
  have hvs : P.frame.vs = P.begun.ws := rfl
  -- the shared end
  have fin : ∀ (L : List Nat) (s1 : Gl), PIs (fV 1 P.begun.ws) V L s1 → (L = [] ∨ L = (List.range (nParts n).toNat).drop m) → (L = [] → DoneAt s P.begun) → 1 ≤ P.begun.ws → P.begun.ws ≤ P.ls → (P.begun.ws = P.ls → P.begun.way = P.last) →
      ∃ (a : ByteArray) (b : Bool) (e : Int) (G' : Gl), ((if bitAt s1.came P.frame.part = 1 then ((⟨#[]⟩ : ByteArray), false, (14 : Int), s1)
        else if s1.n + 1 < P.frame.parts then (⟨#[]⟩, false, 0, s1.took P.frame) else (ofL (s1.took P.frame).value, true, 0, s1.took P.frame)) : ByteArray × Bool × Int × Gl) = (a, b, e, G') ∧ (e = 0 ∨ e = 14) ∧ CInv n P.step G' (s.took a b e P.frame) := by
    intro L s1 I1 hL hdone hw1 hw2 hw3
    have hN : (nParts n).toNat = (nParts V.length).toNat := by rw [hVl]
    have hL0 : L = [] ∨ L[0]? = some m := by
      rcases hL with h | h
      · exact .inl h
      · right
        rw [h, List.getElem?_drop, Nat.add_zero, List.getElem?_range (by rw [hN]; omega)]
    obtain ⟨a, b, e, G', h1, h2, h3, h4, h5⟩ := put_part I1 hmi hL0
    rw [← hF] at h1
    have hpart : P.frame.part = m := by rw [hF]; rfl
    have hparts : P.frame.parts = nParts V.length := by rw [hF]; rfl
    rw [hpart, hparts]
    refine ⟨a, b, e, G', h1, h3, hok, ?_, ?_, h2.ok, by rw [h2.len, hVl], ?_, .inr ⟨hwi, ?_, hw1, ?_, L.drop 1, by show PIs (fV 1 P.begun.ws) P.begun.way.data.toList _ _; rw [hV]; exact h2, ?_, ?_⟩⟩
    · show P.begun.size = n; rw [b5]; exact I.sz
    · show P.begun.li = 1
      rw [show P.begun.li = P.li by unfold Pb.begun; split <;> rfl]; exact hli
    · show P.begun.ws ≤ P.begun.ls
      rw [show P.begun.ls = P.ls by unfold Pb.begun; split <;> rfl]; exact hw2
    · show P.begun.way.size = n
      have := congrArg List.length hV; rw [size_data] at this; omega
    · show P.begun.ws = P.begun.ls → P.begun.way = P.begun.last
      rw [show P.begun.ls = P.ls by unfold Pb.begun; split <;> rfl, show P.begun.last = P.last by unfold Pb.begun; split <;> rfl]; exact hw3
    · rcases hL with h | h
      · left; rw [h]; rfl
      · by_cases hz : L.drop 1 = []
        · exact .inl hz
        · right
          refine ⟨?_, ?_⟩
          · show 0 < P.begun.left - 1
            have hne : (L.drop 1).length ≠ 0 := fun hh => hz (List.eq_nil_of_length_eq_zero hh)
            rw [h, List.length_drop, List.length_drop, List.length_range, hN] at hne
            omega
          · show L.drop 1 = (List.range (nParts n).toNat).drop (P.begun.next + 1).toNat
            rw [h, List.drop_drop, hm]
            congr 1
    · intro hz
      cases b with
      | true =>
        have := (h4 rfl).1
        refine ⟨by simp [Sb.took], ?_, ?_, ?_⟩
        · show (s.took a true e P.frame).behind = P.begun.way
          simp only [Sb.took, if_true]
          rw [this, ← hV, ofL_of]
        · show (s.took a true e P.frame).bi = 1
          simp only [Sb.took, if_true]; exact hvi
        · show (s.took a true e P.frame).bs = P.begun.ws
          simp only [Sb.took, if_true]; exact hvs
      | false =>
        have hd := hdone (h5 rfl hz)
        exact ⟨by simp [Sb.took, hd.1], by show (s.took a false e P.frame).behind = P.begun.way; simp only [Sb.took]; exact hd.2.1, by show (s.took a false e P.frame).bi = 1; simp only [Sb.took]; exact hd.2.2.1, by show (s.took a false e P.frame).bs = P.begun.ws; simp only [Sb.took]; exact hd.2.2.2⟩
  have hstart : PIs (fV 1 P.begun.ws) V (List.range (nParts n).toNat) (G.start P.frame) := by
    have := start_is (f := fV 1 P.begun.ws) (v := V) (s := G) (by rw [I.gl, hVl]) P.frame hvi hvs
    rw [hVl] at this
    exact this
  have hlsb := I.ok.ls
  have hwsb := I.ok.ws
  unfold Gl.put
  rw [if_neg (by rw [hkind]; decide), if_neg (fun h => h hfit)]
  by_cases h0 : P.left = 0
  · have e : P.begun = { P with way := P.last, wi := P.li, ws := P.ls, next := 0, left := nParts P.size } := if_pos h0
    have ews : P.begun.ws = P.ls := by rw [e]
    have eway : P.begun.way = P.last := by rw [e]
    have m0 : m = 0 := by rw [e] at hm; simp at hm; omega
    have hstart' : (List.range (nParts n).toNat) = (List.range (nParts n).toNat).drop m := by rw [m0]; rfl
    have hrne : List.range (nParts n).toNat ≠ [] := by
      intro hh
      have := congrArg List.length hh
      rw [List.length_range, ← hVl] at this
      simp at this
      omega
    rcases I.at_ with ⟨_, his, hw0⟩ | ⟨h1, h2, h3, h4, L, h5, h6, h7⟩
    · rw [if_neg (by rw [his]; simp)]
      have hx : (if G.is = true ∧ cmpV P.frame.vi P.frame.vs G.vi G.vs = 0 then G else G.start P.frame) = G.start P.frame := if_neg (by rw [his]; simp)
      dsimp only
      rw [hx]
      exact fin _ _ hstart (.inr hstart') (fun hh => absurd hh hrne) (by omega) (by omega) (fun _ => eway)
    · have hcv := @cmpV_num P.frame.vi P.frame.vs G.vi G.vs (by rw [hvs]; omega) (by rw [h5.vs]; exact hwsb)
      have gvi : G.vi = 1 := h5.vi
      have gvs : G.vs = P.ws := h5.vs
      rw [hvi, hvs, gvi, gvs, ews] at hcv
      have hle := I.wl
      rw [hvi, hvs, gvi, gvs, ews]
      rw [if_neg (by rintro ⟨_, hh⟩; have := hcv.1.1 hh; omega)]
      by_cases heq : P.ls = P.ws
      · have hx : (if G.is = true ∧ cmpV 1 P.ls 1 P.ws = 0 then G else G.start P.frame) = G := if_pos ⟨h5.is, hcv.2.2 ⟨rfl, heq⟩⟩
        dsimp only
        rw [hx]
        have hL : L = [] := h6.resolve_right (fun h => by omega)
        have hwl : P.way = P.last := h4 heq.symm
        have I5 : PIs (fV 1 P.begun.ws) V L G := by rw [← hV, eway, ← hwl, ews, heq]; exact h5
        have hd := h7 hL
        exact fin L G I5 (.inl hL) (fun _ => ⟨hd.1, by rw [eway, ← hwl]; exact hd.2.1, hd.2.2.1, by rw [ews, heq]; exact hd.2.2.2⟩) (by omega) (by omega) (fun _ => eway)
      · have hx : (if G.is = true ∧ cmpV 1 P.ls 1 P.ws = 0 then G else G.start P.frame) = G.start P.frame := if_neg (by rintro ⟨_, hh⟩; have := hcv.2.1 hh; omega)
        dsimp only
        rw [hx]
        exact fin _ _ hstart (.inr hstart') (fun hh => absurd hh hrne) (by omega) (by omega) (fun _ => eway)
  · have e : P.begun = P := if_neg h0
    rcases I.at_ with ⟨h, _⟩ | ⟨h1, h2, h3, h4, L, h5, h6, h7⟩
    · exact absurd h h0
    · have gvi : G.vi = 1 := h5.vi
      have gvs : G.vs = P.ws := h5.vs
      have hc0 : cmpV P.frame.vi P.frame.vs G.vi G.vs = 0 := by rw [hvi, hvs, gvi, gvs, e]; exact cmpV_self _ _
      rw [if_neg (by rintro ⟨_, hh⟩; omega)]
      have hx : (if G.is = true ∧ cmpV P.frame.vi P.frame.vs G.vi G.vs = 0 then G else G.start P.frame) = G := if_pos ⟨h5.is, hc0⟩
      dsimp only
      rw [hx]
      have hmn : P.next.toNat = m := by rw [e] at hm; omega
      refine fin L G (by rw [← hV, e]; exact h5) ?_ (by rw [e]; exact h7) (by rw [e]; exact h3) (by rw [e]; exact I.wl) (by rw [e]; exact h4)
      rcases h6 with h | ⟨_, h⟩
      · exact .inl h
      · right; rw [h, hmn]

/-- So many parts. -/
def Pb.steps (P : Pb) : Nat → Pb
  | 0 => P
  | k + 1 => (P.steps k).step
theorem step_keeps (P : Pb) : P.step.ls = P.ls ∧ P.step.last = P.last ∧ P.step.size = P.size := by
  unfold Pb.step Pb.begun
  split <;> exact ⟨rfl, rfl, rfl⟩
theorem steps_keeps (P : Pb) (k : Nat) : (P.steps k).ls = P.ls ∧ (P.steps k).last = P.last ∧ (P.steps k).size = P.size := by
  induction k with
  | zero => exact ⟨rfl, rfl, rfl⟩
  | succ k ih =>
    have := step_keeps (P.steps k)
    exact ⟨this.1.trans ih.1, this.2.1.trans ih.2.1, this.2.2.trans ih.2.2⟩
/-- As many as are left. -/
theorem steps_out (P : Pb) (k : Nat) (h : (k : Int) ≤ P.left) : (P.steps k).left = P.left - k := by
  induction k with
  | zero => simp [Pb.steps]
  | succ k ih =>
    have := ih (by omega)
    show (P.steps k).step.left = _
    have hb : (P.steps k).begun = P.steps k := if_neg (by omega)
    unfold Pb.step
    rw [hb]
    show (P.steps k).left - 1 = _
    omega
/-- A whole value more. -/
theorem steps_whole (P : Pb) (h0 : P.left = 0) (k : Nat) (h1 : 1 ≤ k) (h2 : (k : Int) ≤ nParts P.size) : (P.steps k).left = nParts P.size - k ∧ (P.steps k).ws = P.ls ∧ (P.steps k).way = P.last := by
  induction k with
  | zero => omega
  | succ k ih =>
    by_cases hk : k = 0
    · subst hk
      show P.step.left = _ ∧ P.step.ws = _ ∧ P.step.way = _
      have hb : P.begun = { P with way := P.last, wi := P.li, ws := P.ls, next := 0, left := nParts P.size } := if_pos h0
      unfold Pb.step
      rw [hb]
      exact ⟨by show nParts P.size - 1 = _; omega, rfl, rfl⟩
    · obtain ⟨i1, i2, i3⟩ := ih (by omega) (by omega)
      have hb : (P.steps k).begun = P.steps k := if_neg (by omega)
      show (P.steps k).step.left = _ ∧ (P.steps k).step.ws = _ ∧ (P.steps k).step.way = _
      unfold Pb.step
      rw [hb]
      exact ⟨by show (P.steps k).left - 1 = _; omega, i2, i3⟩
/-- What is behind at the end. -/
theorem CInv.last {n : Nat} {P : Pb} {G : Gl} {s : Sb} (I : CInv n P G s) (h0 : P.left = 0) (h1 : 0 < P.ls) (h2 : P.ws = P.ls) : s.waits = true ∧ s.behind = P.last ∧ s.bi = 1 ∧ s.bs = P.ls := by
  rcases I.at_ with ⟨_, _, h⟩ | ⟨_, _, _, h4, L, _, h6, h7⟩
  · omega
  · have hL : L = [] := h6.resolve_right (fun h => by omega)
    have := h7 hL
    rw [← h4 h2, ← h2]
    exact this
end Go.Proofs.Ytdmohidkighajaa
