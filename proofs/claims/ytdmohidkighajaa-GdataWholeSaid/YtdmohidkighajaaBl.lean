/- The walks of package blocks (Parts, Piece, Cut), of cmp and of the versions' order. -/
import Derived.Test.YtdmohidkighajaaRows
import Derived.Test.YtdmohidkighajaaBase
namespace Go.Proofs.Ytdmohidkighajaa
open Go.RowKit
set_option linter.unusedVariables false
set_option linter.unusedSimpArgs false

theorem ret_int {k : IntKind} {a b : Int} (h : a = b) : Ending.returned (.int k a) = .returned (.int k b) := by rw [h]

/-- How many parts a value of a size has. -/
def nParts (n : Int) : Int := if 1 ≤ n ∧ n ≤ 64 then (n + 15) / 16 else 0
theorem nParts_yes {n : Int} (h1 : 1 ≤ n) (h2 : n ≤ 64) : nParts n = (n + 15) / 16 := if_pos ⟨h1, h2⟩
theorem nParts_no {n : Int} (h : ¬ (1 ≤ n ∧ n ≤ 64)) : nParts n = 0 := if_neg h
theorem nParts_le (n : Int) : 0 ≤ nParts n ∧ nParts n ≤ 4 := by unfold nParts; split <;> omega

set_option maxHeartbeats 400000 in
theorem parts_any (n : Int) (w : World) : Calls Try.prog 26 #[.int .i64 n] w fun e w' => e = .returned (.int .i64 (nParts n)) ∧ w = w' := by
  by_cases h : 1 ≤ n ∧ n ≤ 64
  · obtain ⟨h1, h2⟩ := h
    rw [nParts_yes h1 h2]
    go_enter Try.func26, Try.ntmps26
    go_wp2
    go_ret
    exact ⟨ret_int (by omega), rfl⟩
  · rw [nParts_no h]
    by_cases h1 : n < 1
    · clear h
      go_enter Try.func26, Try.ntmps26
      go_wp2
      go_ret
      exact ⟨rfl, rfl⟩
    · have h2 : 64 < n := by omega
      clear h
      go_enter Try.func26, Try.ntmps26
      go_wp2
      go_ret
      exact ⟨rfl, rfl⟩

/-- A part's place and length. -/
def pAt (n p : Int) : Int := if 0 ≤ p ∧ p < nParts n then p * 16 else 0
def pLen (n p : Int) : Int := if 0 ≤ p ∧ p < nParts n then min 16 (n - p * 16) else 0

section
attribute [local go_sem high] min_i
set_option maxHeartbeats 400000 in
theorem piece_any (n p : Int) (hp : p ≤ 9223372036854775807) (w : World) : Calls Try.prog 40 #[.int .i64 n, .int .i64 p] w fun e w' => e = .returned (.tuple #[.int .i64 (pAt n p), .int .i64 (pLen n p)]) ∧ w = w' := by
  have hb := nParts_le n
  by_cases h : 0 ≤ p ∧ p < nParts n
  · have e1 : pAt n p = p * 16 := if_pos h
    have e2 : pLen n p = min 16 (n - p * 16) := if_pos h
    have hn : 1 ≤ n ∧ n ≤ 64 := by
      apply Classical.byContradiction
      intro hh
      rw [nParts_no hh] at h
      omega
    obtain ⟨n1, n2⟩ := hn
    obtain ⟨h1, h2⟩ := h
    have h3 := hb.2
    rw [e1, e2]
    clear e1 e2 hb
    go_enter Try.func40, Try.ntmps40
    go_wp2_with (go_at_call 26; refine (parts_any n _).mono ?_; rintro e w' ⟨rfl, rfl⟩)
    go_ret2
    exact ⟨rfl, rfl⟩
  · have e1 : pAt n p = 0 := if_neg h
    have e2 : pLen n p = 0 := if_neg h
    rw [e1, e2]
    clear e1 e2 hb
    by_cases h0 : p < 0
    · clear h
      go_enter Try.func40, Try.ntmps40
      go_wp2
      go_ret2
      exact ⟨rfl, rfl⟩
    · have h1 : nParts n ≤ p := by omega
      clear h
      go_enter Try.func40, Try.ntmps40
      go_wp2_with (go_at_call 26; refine (parts_any n _).mono ?_; rintro e w' ⟨rfl, rfl⟩)
      go_ret2
      exact ⟨rfl, rfl⟩
end

/-- A part's bytes. -/
def chunk (l : List UInt8) (p : Nat) : List UInt8 := (l.drop (16 * p)).take 16

set_option maxHeartbeats 400000 in
theorem cut_any (s : ByteArray) (p : Nat) (hp : (p : Int) < nParts s.size) (w : World) :
    Calls Try.prog 30 #[.string s, .int .i64 p] w fun e w' => e = .returned (.string (ofL (chunk s.data.toList p))) ∧ w = w' := by
  have hn : 1 ≤ (s.size : Int) ∧ (s.size : Int) ≤ 64 := by
    apply Classical.byContradiction
    intro hh
    rw [nParts_no hh] at hp
    omega
  have hp2 := hp
  rw [nParts_yes hn.1 hn.2] at hp2
  have e1 : pAt s.size p = p * 16 := if_pos ⟨by omega, hp⟩
  have e2 : pLen s.size p = min 16 ((s.size : Int) - p * 16) := if_pos ⟨by omega, hp⟩
  obtain ⟨m, hm, hm1, hm2⟩ : ∃ m : Int, min 16 ((s.size : Int) - p * 16) = m ∧ 0 ≤ m ∧ (p : Int) * 16 + m ≤ s.size := ⟨_, rfl, by omega, by omega⟩
  have hx : s.extract ((p : Int) * 16).toNat ((p : Int) * 16 + m).toNat = ofL (chunk s.data.toList p) := by
    apply ofL_eq
    rw [data_extract]
    unfold chunk
    have ls := size_data s
    rw [show ((p : Int) * 16).toNat = 16 * p by omega, show ((p : Int) * 16 + m).toNat - 16 * p = m.toNat by omega]
    by_cases h16 : m = 16
    · rw [h16]; rfl
    · rw [List.take_of_length_le (i := 16) (by rw [List.length_drop]; omega), List.take_of_length_le (by rw [List.length_drop]; omega)]
  have hc := piece_any s.size p (by omega) w
  rw [e1, e2, hm] at hc
  obtain ⟨q, hq, hq0, hq1⟩ : ∃ q : Int, (p : Int) * 16 = q ∧ 0 ≤ q ∧ q + m ≤ s.size := ⟨_, rfl, by omega, by omega⟩
  rw [hq] at hc hx
  have HC := hide hc
  clear hc e1 e2 hm hq hp hp2 hm2
  go_enter Try.func30, Try.ntmps30
  go_wp2_with (go_at_call 40; refine HC.out.mono ?_; rintro e w' ⟨rfl, rfl⟩)
  go_ret
  exact ⟨rfl, rfl⟩

/-- -1, 0 or 1. -/
def cmpI (a b : Int) : Int := if a < b then -1 else if b < a then 1 else 0

set_option maxHeartbeats 400000 in
theorem nan16_any (a : Int) (w : World) : Calls Try.prog 56 #[.int .u16 a] w fun e w' => e = .returned (.bool false) ∧ w = w' := by
  go_enter Try.func56, Try.ntmps56
  go_wp2
  go_ret
  exact ⟨by simp, rfl⟩
set_option maxHeartbeats 400000 in
theorem nan32_any (a : Int) (w : World) : Calls Try.prog 57 #[.int .u32 a] w fun e w' => e = .returned (.bool false) ∧ w = w' := by
  go_enter Try.func57, Try.ntmps57
  go_wp2
  go_ret
  exact ⟨by simp, rfl⟩
set_option maxHeartbeats 400000 in
theorem c16_any (a b : Int) (w : World) : Calls Try.prog 52 #[.int .u16 a, .int .u16 b] w fun e w' => e = .returned (.int .i64 (cmpI a b)) ∧ w = w' := by
  unfold cmpI
  by_cases h1 : a < b
  · rw [if_pos h1]
    go_enter Try.func52, Try.ntmps52
    go_wp2_with (go_at_call 56; refine (nan16_any _ _).mono ?_; rintro e w' ⟨rfl, rfl⟩)
    go_ret
    exact ⟨rfl, rfl⟩
  · rw [if_neg h1]
    by_cases h2 : b < a
    · rw [if_pos h2]
      go_enter Try.func52, Try.ntmps52
      go_wp2_with (go_at_call 56; refine (nan16_any _ _).mono ?_; rintro e w' ⟨rfl, rfl⟩)
      go_ret
      exact ⟨rfl, rfl⟩
    · rw [if_neg h2]
      go_enter Try.func52, Try.ntmps52
      go_wp2_with (go_at_call 56; refine (nan16_any _ _).mono ?_; rintro e w' ⟨rfl, rfl⟩)
      go_ret
      exact ⟨rfl, rfl⟩
set_option maxHeartbeats 400000 in
theorem c32_any (a b : Int) (w : World) : Calls Try.prog 53 #[.int .u32 a, .int .u32 b] w fun e w' => e = .returned (.int .i64 (cmpI a b)) ∧ w = w' := by
  unfold cmpI
  by_cases h1 : a < b
  · rw [if_pos h1]
    go_enter Try.func53, Try.ntmps53
    go_wp2_with (go_at_call 57; refine (nan32_any _ _).mono ?_; rintro e w' ⟨rfl, rfl⟩)
    go_ret
    exact ⟨rfl, rfl⟩
  · rw [if_neg h1]
    by_cases h2 : b < a
    · rw [if_pos h2]
      go_enter Try.func53, Try.ntmps53
      go_wp2_with (go_at_call 57; refine (nan32_any _ _).mono ?_; rintro e w' ⟨rfl, rfl⟩)
      go_ret
      exact ⟨rfl, rfl⟩
    · rw [if_neg h2]
      go_enter Try.func53, Try.ntmps53
      go_wp2_with (go_at_call 57; refine (nan32_any _ _).mono ?_; rintro e w' ⟨rfl, rfl⟩)
      go_ret
      exact ⟨rfl, rfl⟩

/-- Of two numbers, the first that is not 0. -/
def orI (a b : Int) : Int := if a = 0 then b else a

set_option maxHeartbeats 400000 in
theorem or_two (h : Nat) (a b : Int) (w : World) (hc0 : w.cell? ⟨h, 0, none⟩ = some (.int .i64 a)) (hc1 : w.cell? ⟨h, 1, none⟩ = some (.int .i64 b)) :
    Calls Try.prog 51 #[.slice (some ⟨h, 0, none⟩) 2 2] w fun e w' => e = .returned (.int .i64 (orI a b)) ∧ w = w' := by
  unfold orI
  by_cases ha : a = 0
  · subst ha
    rw [if_pos rfl]
    by_cases hb : b = 0
    · subst hb
      go_enter Try.func51, Try.ntmps51
      go_wp2
      go_rounds 3
      go_ret
      exact ⟨rfl, rfl⟩
    · have hb2 : (b != 0) = true := by simpa using hb
      go_enter Try.func51, Try.ntmps51
      go_wp2
      go_rounds 3
      go_ret
      exact ⟨rfl, rfl⟩
  · rw [if_neg ha]
    have ha2 : (a != 0) = true := by simpa using ha
    go_enter Try.func51, Try.ntmps51
    go_wp2
    go_rounds 3
    go_ret
    exact ⟨rfl, rfl⟩

/-- The order of two versions. -/
def cmpV (a b c d : Int) : Int := orI (cmpI a c) (cmpI b d)

set_option maxHeartbeats 400000 in
theorem vcmp_any (a b c d : Int) (w : World) :
    Calls Try.prog 42 #[.agg #[.int .u16 a, .int .u32 b], .agg #[.int .u16 c, .int .u32 d]] w fun e w' => e = .returned (.int .i64 (cmpV a b c d)) ∧ Below w.heap.size w w' := by
  have bw : Below w.heap.size w ((w.alloc (.cells #[.int .u16 a, .int .u32 b] 34)).alloc (.cells #[.int .u16 c, .int .u32 d] 34)) := ((Below.refl _ _).alloc (Nat.le_refl _) _).alloc (by simp) _
  have hb0 := old_alloc (heap_alloc_new w (.cells #[.int .u16 a, .int .u32 b] 34)) (.cells #[.int .u16 c, .int .u32 d] 34)
  have hb1 := heap_alloc2_new w (.cells #[.int .u16 a, .int .u32 b] 34) (.cells #[.int .u16 c, .int .u32 d] 34)
  have BW := hide bw; have HB0 := hide hb0; have HB1 := hide hb1
  clear bw hb0 hb1
  go_enter Try.func42, Try.ntmps42
  go_wp2_with fail
  have bw := BW.out; have hb0 := HB0.out; have hb1 := HB1.out
  clear BW HB0 HB1
  generalize (w.alloc (.cells #[.int .u16 a, .int .u32 b] 34)).alloc (.cells #[.int .u16 c, .int .u32 d] 34) = w1 at bw hb0 hb1 ⊢
  have c0 : w1.cell? ⟨w.heap.size, 0, none⟩ = some (.int .u16 a) := blk_cell hb0 0
  have c1 : w1.cell? ⟨w.heap.size, 1, none⟩ = some (.int .u32 b) := blk_cell hb0 1
  have d0 : w1.cell? ⟨w.heap.size + 1, 0, none⟩ = some (.int .u16 c) := blk_cell hb1 0
  have d1 : w1.cell? ⟨w.heap.size + 1, 1, none⟩ = some (.int .u32 d) := blk_cell hb1 1
  have BW := hide bw
  clear bw hb0 hb1
  go_region_held3 (fun w' => w'.cell? ⟨w.heap.size, 0, none⟩ = some (.int .u16 a) ∧ w'.cell? ⟨w.heap.size, 1, none⟩ = some (.int .u32 b) ∧ w'.cell? ⟨w.heap.size + 1, 0, none⟩ = some (.int .u16 c) ∧ w'.cell? ⟨w.heap.size + 1, 1, none⟩ = some (.int .u32 d)) (first | exact ⟨c0, c1, d0, d1⟩ | go_keep)
    (first
      | (go_at_call 52; refine (c16_any a c _).mono ?_; rintro e w' ⟨rfl, rfl⟩)
      | (go_at_call 53; refine (c32_any b d _).mono ?_; rintro e w' ⟨rfl, rfl⟩)
      | (go_at_call 51; refine (or_two _ (cmpI a c) (cmpI b d) _ ?_ ?_).mono ?_; simp; simp; rintro e w' ⟨rfl, rfl⟩))
  go_wp2
  go_ret
  exact ⟨rfl, (BW.out.alloc BW.out.size _).drew⟩

theorem cmpV_pos {a b c d : Int} : 0 < cmpV a b c d ↔ c < a ∨ (a = c ∧ d < b) := by
  unfold cmpV orI cmpI
  (repeat' split) <;> constructor <;> intro h <;> omega
theorem cmpV_neg {a b c d : Int} : cmpV a b c d < 0 ↔ a < c ∨ (a = c ∧ b < d) := by
  unfold cmpV orI cmpI
  (repeat' split) <;> constructor <;> intro h <;> omega
end Go.Proofs.Ytdmohidkighajaa
