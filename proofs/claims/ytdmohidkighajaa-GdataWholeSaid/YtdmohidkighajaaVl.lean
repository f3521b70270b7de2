/- The plain law of GdataWhole. -/
import Derived.Test.YtdmohidkighajaaHc
import Derived.Test.YtdmohidkighajaaVm
namespace Go.Proofs.Ytdmohidkighajaa
open Go.RowKit
set_option linter.unusedVariables false
set_option linter.unusedSimpArgs false

/-- A frame of a value that was committed. -/
def AFrame (n : Nat) (M : Made) (f : Fr) : Prop :=
  ∃ (i s : Int) (v : ByteArray) (m : Nat), 1 ≤ s ∧ M.look i s = some v ∧ v.size = n ∧ (m : Int) < nParts n ∧ f = (fV i s).of v.data.toList (nParts n) m

structure VInv (n : Nat) (M : Made) (inc : Int) (P : Pb) (G : Gl) (s : Sb) (went : List Fr) : Prop where
  i1 : 1 ≤ inc
  ok : P.Ok
  sz : P.size = n
  li : P.li = inc
  fresh : ∀ i q v, M.look i q = some v → (0 ≤ i ∧ i ≤ 65535) ∧ (0 ≤ q ∧ q ≤ 4294967295) ∧ (i < inc ∨ (i = inc ∧ q ≤ P.ls))
  last : 0 < P.ls → M.look inc P.ls = some P.last
  way : 0 < P.left → 1 ≤ P.ws ∧ M.look P.wi P.ws = some P.way
  go : G.Ok
  gl : G.value.length = n
  went : ∀ f ∈ went, AFrame n M f
  glue : (G.is = false ∧ s.waits = false ∧ s.fi = 0 ∧ s.fs = 0) ∨
    ∃ v L, M.look G.vi G.vs = some v ∧ v.size = n ∧ PIs (fV G.vi G.vs) v.data.toList L G ∧ s.fi * 4294967296 + s.fs ≤ G.vi * 4294967296 + G.vs ∧ (s.waits = true → s.bi * 4294967296 + s.bs ≤ G.vi * 4294967296 + G.vs)
  front : M.look s.fi s.fs = some s.front
  behind : s.waits = true → M.look s.bi s.bs = some s.behind ∧ s.fi * 4294967296 + s.fs ≤ s.bi * 4294967296 + s.bs
  fault : s.fault = false

theorem VInv.frameIn {n M inc P G s went} (I : VInv n M inc P G s went) {f : Fr} (h : f ∈ went) : FrOk f := by
  obtain ⟨i, q, v, m, h1, h2, h3, h4, rfl⟩ := I.went f h
  have hn := nParts_le n
  refine ⟨⟨by show (0 : Int) ≤ (m : Int); omega, by show (m : Int) ≤ 255; omega⟩, ⟨by show (0 : Int) ≤ nParts n; omega, by show nParts n ≤ 255; omega⟩, ?_⟩
  show (ofL (chunk v.data.toList m)).size ≤ _
  rw [ofL_size, chunk_len]
  omega

theorem AFrame.push {n M f} (h : AFrame n M f) (i q : Int) (v : ByteArray) : AFrame n (M ++ [((i, q), v)]) f := by
  obtain ⟨a, b, x, m, h1, h2, h3⟩ := h
  exact ⟨a, b, x, m, h1, Made.look_push_old M i q v h2, h3⟩

theorem VInv.new {n : Nat} (h1 : 1 ≤ n) (h2 : n ≤ 64) (x : ByteArray) (G : Gl) (hG : G.Ok) (hGl : G.value.length = n) (hGi : G.is = false) (s : Sb) (hs : s = { front := x, fi := 0, fs := 0, behind := s.behind, bi := s.bi, bs := s.bs, waits := false, fault := false }) :
    VInv n [((0, 0), x)] 1 (newPb n 1) G s [] := by
  have e1 : s.fi = 0 := by rw [hs]
  have e2 : s.fs = 0 := by rw [hs]
  have e3 : s.waits = false := by rw [hs]
  have e4 : s.fault = false := by rw [hs]
  have e5 : s.front = x := by rw [hs]
  refine ⟨Int.le_refl 1, newPb_ok h1 h2 ⟨by decide, by decide⟩, rfl, rfl, ?_, fun h => absurd h (show ¬ (0 : Int) < 0 by decide), fun h => absurd h (show ¬ (0 : Int) < 0 by decide), hG, hGl, by simp, .inl ⟨hGi, e3, e1, e2⟩, ?_, fun h => (by rw [e3] at h; cases h), e4⟩
  · intro i q v h
    unfold Made.look at h
    by_cases hc : ((0 : Int) == i && (0 : Int) == q) = true
    · simp only [Bool.and_eq_true, beq_iff_eq] at hc
      omega
    · rw [List.find?_cons_of_neg (by simpa using hc)] at h
      simp at h
  · rw [e1, e2, e5]; simp [Made.look]

theorem VInv.none {n M inc P G s went} (I : VInv n M inc P G s went) : M.look inc (P.ls + 1) = none := by
  cases h : M.look inc (P.ls + 1) with
  | none => rfl
  | some v => have := I.fresh _ _ _ h; omega

theorem VInv.commit {n M inc P G s went} (I : VInv n M inc P G s went) (v : ByteArray) (hv : v.size = n) (hm : P.ls < 4294967295) :
    P.commit v = (0, { P with last := v, ls := P.ls + 1 }) ∧ VInv n (M ++ [((inc, P.ls + 1), v)]) inc { P with last := v, ls := P.ls + 1 } G s went := by
  have hc : P.commit v = (0, { P with last := v, ls := P.ls + 1 }) := by
    unfold Pb.commit
    rw [if_neg (by rw [I.sz, hv]; simp), if_neg (by omega)]
  have hok := commit_ok I.ok v
  rw [hc] at hok
  have hls := I.ok.ls
  have hli := I.ok.li
  have hinc := I.li
  have up := fun {a b : Int} {x : ByteArray} (h : M.look a b = some x) => Made.look_push_old M inc (P.ls + 1) v h
  refine ⟨hc, I.i1, hok, I.sz, I.li, ?_, fun _ => Made.look_push_new M _ _ v I.none, fun h => ⟨(I.way h).1, up (I.way h).2⟩, I.go, I.gl, fun f hf => (I.went f hf).push _ _ _, ?_, up I.front, fun h => ⟨up (I.behind h).1, (I.behind h).2⟩, I.fault⟩
  · intro i q x h
    show _ ∧ _ ∧ (i < inc ∨ (i = inc ∧ q ≤ P.ls + 1))
    cases ho : M.look i q with
    | some y => have := I.fresh _ _ _ ho; omega
    | none =>
      have : i = inc ∧ q = P.ls + 1 := by
        unfold Made.look at h ho
        simp only [Option.map_eq_none_iff] at ho
        rw [List.find?_append, ho] at h
        simp only [Option.none_or, List.find?_singleton] at h
        split at h
        · rename_i hh; simp only [Bool.and_eq_true, beq_iff_eq] at hh; exact ⟨hh.1.symm, hh.2.symm⟩
        · simp at h
      omega
  · rcases I.glue with h | ⟨x, L, a1, a2⟩
    · exact .inl h
    · exact .inr ⟨x, L, up a1, a2⟩

theorem VInv.pub {n M inc P G s went} (I : VInv n M inc P G s went) (h1 : 1 ≤ n) (h2 : n ≤ 64) (hi : inc < 65535) : VInv n M (inc + 1) (newPb n (inc + 1)) G s went := by
  have := I.i1
  refine ⟨by omega, newPb_ok h1 h2 ⟨by omega, by omega⟩, rfl, rfl, fun i q v h => ?_, fun h => absurd h (show ¬ (0 : Int) < 0 by decide), fun h => absurd h (show ¬ (0 : Int) < 0 by decide), I.go, I.gl, I.went, I.glue, I.front, I.behind, I.fault⟩
  have := I.fresh _ _ _ h
  exact ⟨this.1, this.2.1, by omega⟩

theorem VInv.next {n M inc P G s went} (I : VInv n M inc P G s went) (h : 0 < P.ls) : VInv n M inc P.step G s (went ++ [P.frame]) := by
  obtain ⟨b1, b2, b3, b4, b5, b6, b7⟩ := begun_facts I.ok h
  have e1 : P.begun.last = P.last := by unfold Pb.begun; split <;> rfl
  have e2 : P.begun.li = P.li := by unfold Pb.begun; split <;> rfl
  have e3 : P.begun.ls = P.ls := by unfold Pb.begun; split <;> rfl
  have hlf := I.ok.left
  have hw : 1 ≤ P.begun.ws ∧ M.look P.begun.wi P.begun.ws = some P.begun.way := by
    unfold Pb.begun
    split
    · have := I.last h
      rw [← I.li] at this
      exact ⟨by show 1 ≤ P.ls; omega, this⟩
    · exact I.way (by omega)
  refine ⟨I.i1, step_ok I.ok h, by show P.begun.size = n; rw [b5]; exact I.sz, by show P.begun.li = inc; rw [e2]; exact I.li, ?_, ?_, fun _ => hw, I.go, I.gl, ?_, I.glue, I.front, I.behind, I.fault⟩
  · show ∀ i q v, M.look i q = some v → _ ∧ _ ∧ (i < inc ∨ (i = inc ∧ q ≤ P.begun.ls))
    rw [e3]; exact I.fresh
  · show 0 < P.begun.ls → M.look inc P.begun.ls = some P.begun.last
    rw [e3, e1]; exact I.last
  · intro f hf
    rcases List.mem_append.1 hf with hf | hf
    · exact I.went f hf
    · have : f = P.frame := by simpa using hf
      have hs := I.sz
      refine ⟨P.begun.wi, P.begun.ws, P.begun.way, P.begun.next.toNat, hw.1, hw.2, by omega, by rw [← hs]; omega, ?_⟩
      rw [this]
      unfold Pb.frame
      rw [hs]

theorem VInv.less {n M inc P G s went went'} (I : VInv n M inc P G s went) (h : ∀ f ∈ went', f ∈ went) : VInv n M inc P G s went' := { I with went := fun f hf => I.went f (h f hf) }

theorem VInv.put {n M inc P G s went} (I : VInv n M inc P G s went) {f : Fr} (hf : f ∈ went) :
    ∃ (a : ByteArray) (b : Bool) (e : Int) (G' : Gl), G.put f = (a, b, e, G') ∧ VInv n M inc P G' (s.took a b e f) went := by
  obtain ⟨i, q, v, m, h1, h2, h3, h4, rfl⟩ := I.went f hf
  have hfr := I.fresh _ _ _ h2
  obtain ⟨V, hV⟩ : ∃ V, v.data.toList = V := ⟨_, rfl⟩
  have hVl : V.length = n := by rw [← hV, size_data, h3]
  have hmi : (m : Int) < nParts V.length := by rw [hVl]; exact h4
  have hfit : fitsP G.value.length ((fV i q).of v.data.toList (nParts n) m) := by
    have := of_fits (f := fV i q) hmi
    rw [I.gl, hV]; rw [hVl] at this; exact this
  have fin : ∀ (L : List Nat) (s1 : Gl), PIs (fV i q) V L s1 → (s.fi * 4294967296 + s.fs ≤ i * 4294967296 + q) → (s.waits = true → s.bi * 4294967296 + s.bs ≤ i * 4294967296 + q) →
      ∃ (a : ByteArray) (b : Bool) (e : Int) (G' : Gl), ((if bitAt s1.came (m : Int) = 1 then ((⟨#[]⟩ : ByteArray), false, (14 : Int), s1)
        else if s1.n + 1 < nParts n then (⟨#[]⟩, false, 0, s1.took ((fV i q).of v.data.toList (nParts n) m)) else (ofL (s1.took ((fV i q).of v.data.toList (nParts n) m)).value, true, 0, s1.took ((fV i q).of v.data.toList (nParts n) m))) : ByteArray × Bool × Int × Gl) = (a, b, e, G') ∧
        VInv n M inc P G' (s.took a b e ((fV i q).of v.data.toList (nParts n) m)) went := by
    intro L s1 I1 hF hB
    obtain ⟨a, b, e, G', L', e1, I2, e3, e4⟩ := put_there I1 hmi
    rw [hVl] at e1
    rw [hV]
    have gvi : G'.vi = i := I2.vi
    have gvs : G'.vs = q := I2.vs
    refine ⟨a, b, e, G', e1, I.i1, I.ok, I.sz, I.li, I.fresh, I.last, I.way, I2.ok, by rw [I2.len, hVl], I.went, .inr ⟨v, L', by rw [gvi, gvs]; exact h2, h3, by rw [gvi, gvs, hV]; exact I2, ?_, ?_⟩, I.front, ?_, ?_⟩
    · rw [gvi, gvs]; exact hF
    · rw [gvi, gvs]
      cases b with
      | true => intro _; simp only [Sb.took, if_true]; exact Int.le_refl _
      | false => intro hw; simp only [Sb.took, Bool.or_false] at hw ⊢; exact hB hw
    · cases b with
      | true =>
        intro _
        have := (e4 rfl).2.1
        simp only [Sb.took, if_true]
        rw [this, ← hV, ofL_of]
        exact ⟨h2, hF⟩
      | false => intro hw; simp only [Sb.took, Bool.or_false] at hw ⊢; exact I.behind hw
    · have hf := I.fault
      have he : e ≠ 3 := by
        cases b with
        | true => have := (e4 rfl).1; omega
        | false => have := (e3 rfl).2.1; omega
      simp [Sb.took, hf, he]
  have hstart : PIs (fV i q) V (List.range (nParts V.length).toNat) (G.start ((fV i q).of v.data.toList (nParts n) m)) := start_is (by rw [I.gl, hVl]) _ rfl rfl
  unfold Gl.put
  rw [if_neg (show ¬ ((fV i q).of v.data.toList (nParts n) m).kind ≠ 4 from fun h => h rfl), if_neg (fun h => h hfit)]
  rcases I.glue with ⟨his, hwt, hf0, hs0⟩ | ⟨x, L, g1, g2, g3, g4, g5⟩
  · rw [if_neg (by rw [his]; simp)]
    have hx : (if G.is = true ∧ cmpV ((fV i q).of v.data.toList (nParts n) m).vi ((fV i q).of v.data.toList (nParts n) m).vs G.vi G.vs = 0 then G else G.start ((fV i q).of v.data.toList (nParts n) m)) = G.start ((fV i q).of v.data.toList (nParts n) m) := if_neg (by rw [his]; simp)
    dsimp only
    rw [hx]
    exact fin _ _ hstart (by omega) (fun h => by rw [hwt] at h; cases h)
  · have hgr := I.fresh _ _ _ g1
    have hcv := @cmpV_num i q G.vi G.vs hfr.2.1 hgr.2.1
    show ∃ a b e G', (if G.is = true ∧ cmpV i q G.vi G.vs < 0 then _ else _) = _ ∧ _
    by_cases hlt : cmpV i q G.vi G.vs < 0
    · rw [if_pos ⟨g3.is, hlt⟩]
      refine ⟨⟨#[]⟩, false, 1, G, rfl, ?_⟩
      have hsb : s.took ⟨#[]⟩ false 1 ((fV i q).of v.data.toList (nParts n) m) = s := by simp [Sb.took]
      rw [hsb]
      exact I
    · rw [if_neg (fun h => hlt h.2)]
      have hge : G.vi * 4294967296 + G.vs ≤ i * 4294967296 + q := by
        have := hcv.1
        omega
      by_cases heq : cmpV i q G.vi G.vs = 0
      · have hx : (if G.is = true ∧ cmpV ((fV i q).of v.data.toList (nParts n) m).vi ((fV i q).of v.data.toList (nParts n) m).vs G.vi G.vs = 0 then G else G.start ((fV i q).of v.data.toList (nParts n) m)) = G := if_pos ⟨g3.is, heq⟩
        dsimp only
        rw [hx]
        obtain ⟨ei, es⟩ := hcv.2.1 heq
        have hxv : x = v := by
          rw [← ei, ← es, h2] at g1
          exact (Option.some.inj g1).symm
        rw [hxv, hV, ← ei, ← es] at g3
        exact fin L G g3 (by omega) (fun h => by have := g5 h; omega)
      · have hx : (if G.is = true ∧ cmpV ((fV i q).of v.data.toList (nParts n) m).vi ((fV i q).of v.data.toList (nParts n) m).vs G.vi G.vs = 0 then G else G.start ((fV i q).of v.data.toList (nParts n) m)) = G.start ((fV i q).of v.data.toList (nParts n) m) := if_neg (fun h => heq h.2)
        dsimp only
        rw [hx]
        exact fin _ _ hstart (by omega) (fun h => by have := g5 h; omega)

theorem VInv.latch {n M inc P G s went} (I : VInv n M inc P G s went) (h : s.waits = true) :
    VInv n M inc P G { front := s.behind, fi := s.bi, fs := s.bs, behind := ⟨#[]⟩, bi := 0, bs := 0, waits := false, fault := s.fault } went ∧ s.fi * 4294967296 + s.fs ≤ s.bi * 4294967296 + s.bs := by
  have hb := I.behind h
  refine ⟨⟨I.i1, I.ok, I.sz, I.li, I.fresh, I.last, I.way, I.go, I.gl, I.went, ?_, hb.1, fun h => (by cases h), I.fault⟩, hb.2⟩
  rcases I.glue with ⟨_, hw, _⟩ | ⟨x, L, g1, g2, g3, g4, g5⟩
  · rw [h] at hw; cases hw
  · exact .inr ⟨x, L, g1, g2, g3, g5 h, fun h => (by cases h)⟩
end Go.Proofs.Ytdmohidkighajaa
