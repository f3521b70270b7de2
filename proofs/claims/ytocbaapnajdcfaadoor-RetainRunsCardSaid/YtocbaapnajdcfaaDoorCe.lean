/- The walks of the reference's Eye (layer 2). -/
import Derived.Test.YtocbaapnajdcfaaDoorCb
namespace Go.Proofs.YtocbaapnajdcfaaDoor
open Go.RowKit
set_option linter.unusedVariables false
set_option linter.unusedSimpArgs false

/-- The reference's Eye in block g: what is left. -/
def REyeAt (w : World) (g : Nat) (l : List UInt8) : Prop := w.heap[g]? = some (.cells #[.string (ofL l), .bool false] 92 (0, 0))

theorem extract_ofL_take (l : List UInt8) (n : Nat) : (ofL l).extract 0 n = ofL (l.take n) := by rw [extract_ofL]; simp
theorem extract_ofL_drop (l : List UInt8) (n m : Nat) (h : m = l.length) : (ofL l).extract n m = ofL (l.drop n) := by
  rw [extract_ofL, List.take_of_length_le (by rw [List.length_drop]; omega)]

set_option maxHeartbeats 400000 in
theorem retake_any {w : World} {g : Nat} {l : List UInt8} (k : REyeAt w g l) (hl : l.length ≤ 1000) (n : Nat) (hn : n ≤ l.length) :
    Calls Tryd.prog 76 #[.pointer (some ⟨g, 0, none⟩), .int .i64 n] w fun e w' => e = .returned (.string (ofL (l.take n))) ∧ REyeAt w' g (l.drop n) ∧ Only g g w w' := by
  have k0 : w.cell? ⟨g, 0, none⟩ = some (.string (ofL l)) := blk_cell k 0
  have k1 : w.cell? ⟨g, 1, none⟩ = some (.bool false) := blk_cell k 1
  have f0 : w.frozen? ⟨g, 0, none⟩ = false := blk_frozen k 0
  have hz := ofL_size l
  have hn1 : (n : Int) ≤ ((ofL l).size : Int) := by rw [hz]; omega
  have hn2 : ((ofL l).size : Int) ≤ 1000 := by rw [hz]; omega
  have e1 := extract_ofL_take l n
  have e2 := extract_ofL_drop l n (ofL l).size hz
  have K := hide k
  have HZ := hide hz
  clear k hz
  obtain ⟨a, ha⟩ : ∃ a, ofL l = a := ⟨_, rfl⟩
  rw [ha] at k0 hn1 hn2 e1 e2
  have HA := hide ha
  clear ha hn
  go_enter Tryd.func76, Tryd.ntmps76
  go_wp2
  go_ret
  refine ⟨rfl, ?_, (Only.refl g g w).set g 0 _ (.inl rfl)⟩
  unfold REyeAt
  rw [set_heap K.out 0 _]
  rfl

/-- The number of some bytes. -/
def numB (l : List UInt8) : Nat := l.foldl (fun a c => a * 256 + c.toNat) 0
theorem numB_snoc (l : List UInt8) (c : UInt8) : numB (l ++ [c]) = numB l * 256 + c.toNat := by simp [numB]
theorem numB_lt2 (a k : Nat) (ha : a < 256 ^ k) (l : List UInt8) : l.foldl (fun a c => a * 256 + c.toNat) a < 256 ^ (k + l.length) := by
  induction l generalizing a k with
  | nil => simpa using ha
  | cons c l ih =>
    have := c.toNat_lt
    have h := ih (a * 256 + c.toNat) (k + 1) (by rw [Nat.pow_succ]; omega)
    rw [List.foldl_cons, List.length_cons, show k + (l.length + 1) = k + 1 + l.length by omega]
    exact h
theorem numB_lt (l : List UInt8) : numB l < 256 ^ l.length := by
  have := numB_lt2 0 0 (by decide) l
  rwa [Nat.zero_add] at this

def NumRel (t : List UInt8) (v i : Value) : Prop := ∃ j : Nat, j ≤ t.length ∧ i = .int .i64 j ∧ v = .int .u32 (numB (t.take j) : Nat)

set_option maxRecDepth 100000 in
set_option maxHeartbeats 1000000 in
theorem renumber_any {w : World} {g : Nat} {l : List UInt8} (k : REyeAt w g l) (hl : l.length ≤ 1000) (n : Nat) (hn : n ≤ l.length) (hn4 : n ≤ 4) :
    Calls Tryd.prog 57 #[.pointer (some ⟨g, 0, none⟩), .int .i64 n] w fun e w' => e = .returned (.int .u32 (numB (l.take n) : Nat)) ∧ REyeAt w' g (l.drop n) ∧ Only g g w w' := by
  have HC := hide (retake_any k hl n hn)
  obtain ⟨t, ht⟩ : ∃ t, l.take n = t := ⟨_, rfl⟩
  have htl : t.length = n := by rw [← ht, List.length_take]; omega
  rw [ht] at HC ⊢
  clear k ht hn
  go_enter Tryd.func57, Tryd.ntmps57
  go_wp2_with fail
  refine HC.out.mono ?_
  rintro e w1 ⟨rfl, k1, o1⟩
  have K1 := hide k1
  have O1 := hide o1
  clear k1 o1 HC
  go_wp2_with fail
  have hz := ofL_size t
  go_loop [6, 7] (fun v i => NumRel t v i) (fun _ i => n - (intOf i).toNat)
  case atStart => exact ⟨0, Nat.zero_le _, rfl, rfl⟩
  case round =>
    obtain ⟨j, hj, rfl, rfl⟩ := hrel
    by_cases hlt : j < t.length
    · have hlt' : j < (ofL t).size := by omega
      have hc : (ofL t)[j] = t[j] := by rfl
      obtain ⟨c, hcc⟩ : ∃ c : Nat, t[j].toNat = c := ⟨_, rfl⟩
      have hc2 : c < 256 := by have := t[j].toNat_lt; omega
      have hs : numB (t.take (j + 1)) = numB (t.take j) * 256 + c := by rw [List.take_succ_eq_append_getElem hlt, numB_snoc]; exact congrArg (numB (t.take j) * 256 + ·) hcc
      have hb := numB_lt (t.take j)
      have hlen : (t.take j).length = j := by rw [List.length_take]; omega
      rw [hlen] at hb
      have hb2 : numB (t.take j) < 16777216 := Nat.lt_of_lt_of_le hb (by
        have : 256 ^ j ≤ 256 ^ 3 := Nat.pow_le_pow_right (by omega) (by omega)
        simpa using this)
      obtain ⟨m, hm⟩ : ∃ m, numB (t.take j) = m := ⟨_, rfl⟩
      rw [hm] at hb2 hs ⊢
      have hmi : (m : Int) ≤ 16777215 := by omega
      have wc : IntKind.u32.wrap ((ofL t)[j].toNat : Int) = (c : Int) := by rw [hc, hcc, IntKind.wrap_u32']; omega
      have w2 : IntKind.u32.wrap ((m : Int) * 256) = ((m * 256 : Nat) : Int) := by rw [IntKind.wrap_u32']; omega
      have w3 : IntKind.u32.wrap (((m * 256 : Nat) : Int) + (c : Int)) = ((m * 256 + c : Nat) : Int) := by rw [IntKind.wrap_u32']; omega
      have HS := hide hs
      have hji : (j : Int) < ((ofL t).size : Int) := by omega
      clear hs hb hlen hm hb2 hc hcc hz
      go_wp2
      go_round
      case rel => exact ⟨j + 1, by omega, by go_num, by rw [HS.out]; go_num⟩
      case measure => simp [intOf]; omega
    · obtain rfl : j = t.length := by omega
      rw [List.take_length]
      go_wp2
      go_ret
      exact ⟨rfl, K1.out, O1.out⟩

set_option maxHeartbeats 400000 in
theorem resmall_any {w : World} {g : Nat} {l : List UInt8} (k : REyeAt w g l) (hl : l.length ≤ 1000) (n : Nat) (hn : numB (l.take 1) = n) (hn2 : 1 + n ≤ l.length) :
    Calls Tryd.prog 58 #[.pointer (some ⟨g, 0, none⟩)] w fun e w' => e = .returned (.string (ofL ((l.drop 1).take n))) ∧ REyeAt w' g (l.drop (1 + n)) ∧ Only g g w w' := by
  have HC := hide (renumber_any k hl 1 (by omega) (by omega))
  have wn : IntKind.i64.wrap ((n : Nat) : Int) = (n : Int) := by rw [IntKind.wrap_i64]; omega
  rw [hn] at HC
  obtain ⟨t, ht⟩ : ∃ t, (l.drop 1).take n = t := ⟨_, rfl⟩
  obtain ⟨l1, hl1⟩ : ∃ l1, l.drop 1 = l1 := ⟨_, rfl⟩
  have hl2 : l.drop (1 + n) = l1.drop n := by rw [← hl1, List.drop_drop]
  have hl3 : l1.length = l.length - 1 := by rw [← hl1, List.length_drop]
  rw [ht, hl2]
  rw [hl1] at HC ht
  have HT := hide ht
  clear k hn ht hl1 hl2
  go_enter Tryd.func58, Tryd.ntmps58
  go_wp2_with fail
  refine HC.out.mono ?_
  rintro e w1 ⟨rfl, k1, o1⟩
  go_wp2_with fail
  refine (retake_any k1 (by omega) n (by omega)).mono ?_
  rintro e w2 ⟨rfl, k2, o2⟩
  rw [HT.out]
  go_wp2_with fail
  go_ret
  exact ⟨rfl, k2, o1.trans o2⟩
end Go.Proofs.YtocbaapnajdcfaaDoor
