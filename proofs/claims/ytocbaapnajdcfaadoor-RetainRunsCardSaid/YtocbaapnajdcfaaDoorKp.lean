/- Plain law of layer 7: an act (a commit, a boot), held against the document's. -/
import Derived.Test.YtocbaapnajdcfaaDoorKc
import Derived.Test.YtocbaapnajdcfaaDoorCo
namespace Go.Proofs.YtocbaapnajdcfaaDoor
open Go.RowKit
set_option linter.unusedVariables false
set_option linter.unusedSimpArgs false

/-- How many bytes may be written (below 0: all). -/
def leftN (s : St) : Int := if s.armed = true then s.left else -1
/-- An act: the record and the error, and the store. -/
def actP (s : St) (boot : Bool) (inc : Nat) (data : List UInt8) : (Rec × Int) × St :=
  if boot = true then BootP s else ((Rec.zero, (CommitP s inc data).1), (CommitP s inc data).2)

theorem cm_law {s : St} (hd : s.dark = false) (hl : 0 ≤ s.left) (h148 : 148 ≤ s.b.length) {r : Rec} (ok : r.ok) (hs : (newestP s.b).2.1.seq ≠ 4294967295) :
    ∃ got e s', commitP s r = ((got, e), s') ∧ s'.b.length = s.b.length ∧ s'.wrote ≤ s.wrote + 75 ∧
      ((e = 0 ∧ commitR s.b (recN s.b r) (leftN s) = (s'.b, true) ∧ got = recN s.b r) ∨ (e = 12 ∧ commitR s.b (recN s.b r) (leftN s) = (s'.b, false) ∧ got = Rec.zero ∧ s'.dark = true)) := by
  have ha2 := nextA_le s.b
  have ok2 := recN_ok ok hs
  have hlen := fun m => cutL_length (b := s.b) (a := nextA (newestP s.b)) ok2 m (by omega)
  obtain ⟨b, dk, ar, lf, wr⟩ := s
  simp only at hd hl h148 hs ok2 ha2 hlen ⊢
  subst hd
  cases ar with
  | false =>
    refine ⟨_, _, _, commitP_un ok hs h148, hlen 75, Int.le_refl _, .inl ⟨rfl, ?_, rfl⟩⟩
    unfold commitR leftN
    rw [if_neg (by simp)]
  | true =>
    obtain ⟨L, rfl⟩ : ∃ L : Nat, lf = L := ⟨lf.toNat, by omega⟩
    by_cases h75 : 75 ≤ L
    · refine ⟨_, _, _, commitP_armed ok hs h148 h75, hlen 75, Int.le_refl _, .inl ⟨rfl, ?_, rfl⟩⟩
      unfold commitR leftN
      rw [if_neg (by simp; omega)]
    · refine ⟨_, _, _, commitP_torn ok hs h148 (by omega), hlen L, by show wr + (L : Int) ≤ wr + 75; omega, .inr ⟨rfl, ?_, rfl, rfl⟩⟩
      unfold commitR leftN
      rw [if_pos (by simp; omega)]
      simp

theorem act_law {s : St} (hd : s.dark = false) (hl : 0 ≤ s.left) (boot : Bool) (inc : Nat) (hi : inc < 65536) (data : List UInt8) :
    ∃ got e s', actP s boot inc data = ((got, e), s') ∧ s'.b.length = s.b.length ∧ s'.wrote ≤ s.wrote + 75 ∧
      ((∃ f, nextR s.b boot inc data = (Rec.zero, f) ∧ f ≠ 0 ∧ e = f ∧ got = Rec.zero ∧ s' = s) ∨
       (148 ≤ s.b.length ∧ ∃ T, T.ok ∧ nextR s.b boot inc data = (T, 0) ∧
         ((e = 0 ∧ commitR s.b T (leftN s) = (s'.b, true) ∧ (boot = true → got = T)) ∨ (e = 12 ∧ commitR s.b T (leftN s) = (s'.b, false) ∧ got = Rec.zero ∧ s'.dark = true)))) := by
  by_cases h64 : boot = false ∧ 64 < data.length
  · refine ⟨Rec.zero, 2, s, ?_, rfl, by omega, .inl ⟨2, ?_, by decide, rfl, rfl, rfl⟩⟩
    · unfold actP CommitP
      rw [if_neg (by rw [h64.1]; simp), if_pos h64.2]
    · unfold nextR
      rw [if_pos h64]
  · by_cases h148 : s.b.length < 148
    · have hn : newestP s.b = (0, Rec.zero, false) := by unfold newestP; rw [if_pos h148]
      have hc : ∀ r, commitP s r = ((Rec.zero, 1), s) := fun r => by
        unfold commitP
        rw [hn, if_neg (show ¬ (Rec.zero.seq = 4294967295) by decide), if_pos h148]
      refine ⟨Rec.zero, 1, s, ?_, rfl, by omega, .inl ⟨1, ?_, by decide, rfl, rfl, rfl⟩⟩
      · unfold actP
        cases boot with
        | true =>
          unfold BootP
          rw [if_pos rfl, hn, if_neg (show ¬ (Rec.zero.inc = 65535) by decide), hc]
        | false =>
          unfold CommitP
          have : ¬ 64 < data.length := fun h => h64 ⟨rfl, h⟩
          rw [if_neg (by simp), if_neg this, hc]
      · unfold nextR
        rw [if_neg h64, if_pos h148]
    · have h148' : 148 ≤ s.b.length := by omega
      have hq := (newest_eq h148').1
      have hok := newestP_ok s.b
      by_cases hinc : boot = true ∧ (newestP s.b).2.1.inc = 65535
      · refine ⟨Rec.zero, 13, s, ?_, rfl, by omega, .inl ⟨13, ?_, by decide, rfl, rfl, rfl⟩⟩
        · unfold actP BootP
          rw [if_pos hinc.1, if_pos hinc.2]
        · unfold nextR
          rw [if_neg h64, if_neg h148, hq, if_pos hinc]
      · by_cases hseq : (newestP s.b).2.1.seq = 4294967295
        · refine ⟨Rec.zero, 13, s, ?_, rfl, by omega, .inl ⟨13, ?_, by decide, rfl, rfl, rfl⟩⟩
          · unfold actP
            cases boot with
            | true =>
              unfold BootP
              have : ¬ (newestP s.b).2.1.inc = 65535 := fun h => hinc ⟨rfl, h⟩
              rw [if_pos rfl, if_neg this, commitP_max hseq]
            | false =>
              unfold CommitP
              have : ¬ 64 < data.length := fun h => h64 ⟨rfl, h⟩
              rw [if_neg (by simp), if_neg this, commitP_max hseq]
          · unfold nextR
            rw [if_neg h64, if_neg h148, hq, if_neg hinc, if_pos hseq]
        · cases boot with
          | true =>
            have hi2 : ¬ (newestP s.b).2.1.inc = 65535 := fun h => hinc ⟨rfl, h⟩
            have okr : ({ (newestP s.b).2.1 with inc := (newestP s.b).2.1.inc + 1 } : Rec).ok := ⟨hok.seq, by have := hok.inc; show _ + 1 < _; omega, hok.data⟩
            obtain ⟨got, e, s', h1, h2, h3, h4⟩ := cm_law hd hl h148' okr hseq
            refine ⟨got, e, s', ?_, h2, h3, .inr ⟨h148', _, recN_ok okr hseq, ?_, ?_⟩⟩
            · unfold actP BootP
              rw [if_pos rfl, if_neg hi2, h1]
            · unfold nextR
              rw [if_neg h64, if_neg h148, hq, if_neg hinc, if_neg hseq]
              rfl
            · rcases h4 with ⟨a1, a2, a3⟩ | ⟨a1, a2, a3, a4⟩
              · exact .inl ⟨a1, a2, fun _ => a3⟩
              · exact .inr ⟨a1, a2, a3, a4⟩
          | false =>
            have h642 : ¬ 64 < data.length := fun h => h64 ⟨rfl, h⟩
            have okr : (⟨0, inc, data⟩ : Rec).ok := ⟨show 0 < 4294967296 by decide, hi, by show data.length ≤ 64; omega⟩
            obtain ⟨got, e, s', h1, h2, h3, h4⟩ := cm_law hd hl h148' okr hseq
            refine ⟨Rec.zero, e, s', ?_, h2, h3, .inr ⟨h148', _, recN_ok okr hseq, ?_, ?_⟩⟩
            · unfold actP CommitP
              rw [if_neg (by simp), if_neg h642, h1]
            · unfold nextR
              rw [if_neg h64, if_neg h148, hq, if_neg hinc, if_neg hseq]
              rfl
            · rcases h4 with ⟨a1, a2, a3⟩ | ⟨a1, a2, a3, a4⟩
              · exact .inl ⟨a1, a2, fun h => by cases h⟩
              · exact .inr ⟨a1, a2, rfl, a4⟩

theorem rnext_any (s : ByteArray) (boot : Bool) (inc : Nat) (data : ByteArray) (hs2 : s.size ≤ 1000) (hi : inc < 65536) (hd2 : data.size ≤ 1000) (w : World) :
    Calls Tryd.prog 30 #[.string s, .bool boot, .int .u16 inc, .string data] w fun e w' => e = .returned (.tuple #[.agg (nextR s.data.toList boot inc data.data.toList).1.v, .int .i64 (nextR s.data.toList boot inc data.data.toList).2]) ∧ Below w.heap.size w w' := by
  have hz := size_data s
  have hy := size_data data
  unfold nextR
  by_cases h64 : boot = false ∧ 64 < data.data.toList.length
  · rw [if_pos h64]
    obtain ⟨rfl, h⟩ := h64
    exact rnext_long s false inc data hs2 hi hd2 (by omega) w
  · rw [if_neg h64]
    by_cases h148 : s.data.toList.length < 148
    · rw [if_pos h148]
      cases boot with
      | true => exact rnext_small1 s true inc data hs2 hi hd2 (by omega) w
      | false => exact rnext_small0 s false inc data hs2 hi hd2 (by omega) (by have : ¬ 64 < data.data.toList.length := fun h => h64 ⟨rfl, h⟩; omega) w
    · rw [if_neg h148]
      obtain ⟨R, hR⟩ : ∃ R, (newestR s.data.toList).2 = R := ⟨_, rfl⟩
      rw [hR]
      by_cases hinc : boot = true ∧ R.inc = 65535
      · rw [if_pos hinc]
        obtain ⟨rfl, h⟩ := hinc
        exact rnext_inc s true inc data hs2 hi (by omega) hR hd2 h w
      · rw [if_neg hinc]
        by_cases hseq : R.seq = 4294967295
        · rw [if_pos hseq]
          cases boot with
          | true => exact rnext_seq1 s true inc data hs2 hi hd2 (by omega) hR (fun h => hinc ⟨rfl, h⟩) hseq w
          | false => exact rnext_seq0 s false inc data hs2 hi hd2 (by omega) hR (by have : ¬ 64 < data.data.toList.length := fun h => h64 ⟨rfl, h⟩; omega) hseq w
        · rw [if_neg hseq]
          cases boot with
          | true => exact rnext_ok1 s true inc data hs2 hi hd2 (by omega) hR (fun h => hinc ⟨rfl, h⟩) hseq w
          | false =>
            have := rnext_ok0 s false inc data hs2 hi hd2 (by omega) hR (by have : ¬ 64 < data.data.toList.length := fun h => h64 ⟨rfl, h⟩; omega) hseq w
            unfold Rec.v
            simpa [ofL_of] using this
end Go.Proofs.YtocbaapnajdcfaaDoor
