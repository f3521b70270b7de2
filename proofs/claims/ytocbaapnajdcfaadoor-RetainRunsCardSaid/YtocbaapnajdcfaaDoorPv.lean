/- Plain law of layer 7: a commit's step on a store that holds a record. -/
import Derived.Test.YtocbaapnajdcfaaDoorPt
namespace Go.Proofs.YtocbaapnajdcfaaDoor
open Go.RowKit
set_option linter.unusedVariables false
set_option linter.unusedSimpArgs false

/-- A store whose newest record is R (f: there is one). -/
structure Holds (s : St) (R : Rec) (f : Bool) (n : Int) : Prop where
  len : 148 ≤ s.b.length
  new : (newestP s.b).2 = (R, f)
  wrote : s.wrote = n

theorem Holds.seq {s : St} {R : Rec} {f : Bool} {n : Int} (h : Holds s R f n) : (newestP s.b).2.1 = R := by rw [h.new]
theorem Holds.is {s : St} {R : Rec} {f : Bool} {n : Int} (h : Holds s R f n) : (newestP s.b).2.2 = f := by rw [h.new]
theorem Holds.ok {s : St} {R : Rec} {f : Bool} {n : Int} (h : Holds s R f n) : R.ok := by
  have := newestP_ok s.b
  rwa [h.seq] at this
theorem Holds.recN {s : St} {R : Rec} {f : Bool} {n : Int} (h : Holds s R f n) (r : Rec) : recN s.b r = { r with seq := R.seq + 1 } := by
  unfold Proofs.YtocbaapnajdcfaaDoor.recN
  rw [h.seq]

theorem commit_un {s : St} {R r : Rec} {f : Bool} {n : Int} (h : Holds s R f n) (hd : s.dark = false) (ha : s.armed = false) (hs : R.seq ≠ 4294967295) (ok : r.ok) :
    ∃ s', commitP s r = (({ r with seq := R.seq + 1 }, 0), s') ∧ Holds s' { r with seq := R.seq + 1 } true (n + 75) ∧ s'.dark = false ∧ s'.armed = false ∧ s'.left = s.left ∧ s'.b.length = s.b.length := by
  have hs2 : (newestP s.b).2.1.seq ≠ 4294967295 := by rw [h.seq]; exact hs
  have ok2 := recN_ok ok hs2
  have hl := h.len
  have hn := h.wrote
  have ha2 := nextA_le s.b
  have hr := h.recN r
  have hnew := new_all (b := s.b) hl ok2 (fun _ => by show _ < (newestP s.b).2.1.seq + 1; omega)
  have hlen := cutL_length (b := s.b) (a := nextA (newestP s.b)) ok2 75 (by omega)
  obtain ⟨b, dk, ar, lf, wr⟩ := s
  simp only at hd ha hl hn
  subst hd ha hn
  have e := commitP_un (n := wr) (lf := lf) ok hs2 hl
  rw [hr] at e hnew hlen
  exact ⟨_, e, ⟨by rw [hlen]; exact hl, by simp only; rw [hnew], rfl⟩, rfl, rfl, rfl, hlen⟩

theorem commit_arm {s : St} {R r : Rec} {f : Bool} {n : Int} {L : Nat} (h : Holds s R f n) (hd : s.dark = false) (ha : s.armed = true) (hL : s.left = L) (h75 : 75 ≤ L) (hs : R.seq ≠ 4294967295) (ok : r.ok) :
    ∃ s', commitP s r = (({ r with seq := R.seq + 1 }, 0), s') ∧ Holds s' { r with seq := R.seq + 1 } true (n + 75) ∧ s'.dark = false ∧ s'.b.length = s.b.length := by
  have hs2 : (newestP s.b).2.1.seq ≠ 4294967295 := by rw [h.seq]; exact hs
  have ok2 := recN_ok ok hs2
  have hl := h.len
  have hn := h.wrote
  have ha2 := nextA_le s.b
  have hr := h.recN r
  have hnew := new_all (b := s.b) hl ok2 (fun _ => by show _ < (newestP s.b).2.1.seq + 1; omega)
  have hlen := cutL_length (b := s.b) (a := nextA (newestP s.b)) ok2 75 (by omega)
  obtain ⟨b, dk, ar, lf, wr⟩ := s
  simp only at hd ha hl hn hL
  subst hd ha hn hL
  have e := commitP_armed (n := wr) (L := L) ok hs2 hl h75
  rw [hr] at e hnew hlen
  exact ⟨_, e, ⟨by rw [hlen]; exact hl, by simp only; rw [hnew], rfl⟩, rfl, hlen⟩

theorem commit_tear {s : St} {R r : Rec} {f : Bool} {n : Int} {L : Nat} (h : Holds s R f n) (hd : s.dark = false) (ha : s.armed = true) (hL : s.left = L) (h75 : L < 75) (hs : R.seq ≠ 4294967295) (ok : r.ok) :
    ∃ s', commitP s r = ((Rec.zero, 12), s') ∧ Holds s' R f (n + L) ∧ s'.dark = true ∧ s'.b.length = s.b.length := by
  have hs2 : (newestP s.b).2.1.seq ≠ 4294967295 := by rw [h.seq]; exact hs
  have ok2 := recN_ok ok hs2
  have hl := h.len
  have hn := h.wrote
  have ha2 := nextA_le s.b
  have hnw := h.new
  have hnew := new_cut (b := s.b) hl ok2 L h75
  have hlen := cutL_length (b := s.b) (a := nextA (newestP s.b)) ok2 L (by omega)
  obtain ⟨b, dk, ar, lf, wr⟩ := s
  simp only at hd ha hl hn hL hnw
  subst hd ha hn hL
  have e := commitP_torn (n := wr) (L := L) ok hs2 hl h75
  exact ⟨_, e, ⟨by rw [hlen]; exact hl, by simp only; rw [hnew]; exact hnw, rfl⟩, rfl, hlen⟩

theorem Holds.set {s s' : St} {R : Rec} {f : Bool} {n : Int} (h : Holds s R f n) (hb : s'.b = s.b) (hw : s'.wrote = s.wrote) : Holds s' R f n :=
  ⟨by rw [hb]; exact h.len, by rw [hb]; exact h.new, hw.trans h.wrote⟩

theorem new_zeros : newestP (List.replicate 148 0) = (0, Rec.zero, false) := by
  have h : ∀ k, k < 2 → wholeP (slotK (List.replicate 148 0) k) = false := fun k hk => wholeP_mark (by
    have : (slotK (List.replicate 148 0) k).take 1 = [0] := by
      apply List.ext_getElem?
      intro i
      rw [List.getElem?_take]
      split
      · rw [slotK_get, if_pos (by omega), List.getElem?_replicate, if_pos (by omega), show i = 0 by omega]
        rfl
      · rw [List.getElem?_eq_none (by simp; omega)]
    rw [this]; decide)
  unfold newestP
  rw [slot0_eq, slot1_eq, h 0 (by omega), h 1 (by omega)]
  simp
theorem zeros_holds : Holds ⟨List.replicate 148 0, false, false, 0, 0⟩ Rec.zero false 0 := ⟨by simp, by rw [new_zeros], rfl⟩

theorem Boot_eq {s : St} {R : Rec} {f : Bool} {n : Int} (h : Holds s R f n) (hi : R.inc ≠ 65535) : BootP s = commitP s { R with inc := R.inc + 1 } := by
  unfold BootP
  rw [h.seq, if_neg hi]
theorem Boot_max {s : St} {R : Rec} {f : Bool} {n : Int} (h : Holds s R f n) (hi : R.inc = 65535) : BootP s = ((Rec.zero, 13), s) := by
  unfold BootP
  rw [h.seq, if_pos hi]
theorem Commit_eq {s : St} {inc : Nat} {data : List UInt8} (hd : data.length ≤ 64) : CommitP s inc data = ((commitP s ⟨0, inc, data⟩).1.2, (commitP s ⟨0, inc, data⟩).2) := by
  unfold CommitP
  rw [if_neg (by omega)]
end Go.Proofs.YtocbaapnajdcfaaDoor
