/- The walk of StoreRuns. -/
import Derived.Test.YtoekemceminciaaStP
namespace Go.Proofs.Ytoekemceminciaa
open Go.RowKit
set_option linter.unusedVariables false
set_option linter.unusedSimpArgs false
attribute [local go_sem] ofL_toList

/-- The acts that came in: of each its four cells. -/
def Acts (W : World) (A : Option Addr) (n : Nat) : Prop :=
  ∀ i, i < n → ∃ (ad : Addr) (x a m : Int) (t : ByteArray), A = some ad ∧ ad.block < W.heap.size ∧ 0 ≤ x ∧ x ≤ 255 ∧ m ≤ 9223372036854775807 ∧
    W.cell? (ad.add (i * 4)) = some (.int .u8 x) ∧ W.cell? ⟨(ad.add (i * 4)).block, (ad.add (i * 4)).off + 1, none⟩ = some (.int .i64 a) ∧
    W.cell? ⟨(ad.add (i * 4)).block, (ad.add (i * 4)).off + 2, none⟩ = some (.int .i64 m) ∧ W.cell? ⟨(ad.add (i * 4)).block, (ad.add (i * 4)).off + 3, none⟩ = some (.string t)

theorem block_add (a : Addr) (n : Nat) : (a.add n).block = a.block := by unfold Addr.add; split <;> rfl

theorem Acts.at_ {W w : World} {A : Option Addr} {n i : Nat} (h : Acts W A n) (hb : Below W.heap.size W w) (hi : i < n) : ∃ (ad : Addr) (x a m : Int) (t : ByteArray), A = some ad ∧ 0 ≤ x ∧ x ≤ 255 ∧ m ≤ 9223372036854775807 ∧
    w.cell? (ad.add (i * 4)) = some (.int .u8 x) ∧ w.cell? ⟨(ad.add (i * 4)).block, (ad.add (i * 4)).off + 1, none⟩ = some (.int .i64 a) ∧
    w.cell? ⟨(ad.add (i * 4)).block, (ad.add (i * 4)).off + 2, none⟩ = some (.int .i64 m) ∧ w.cell? ⟨(ad.add (i * 4)).block, (ad.add (i * 4)).off + 3, none⟩ = some (.string t) := by
  obtain ⟨ad, x, a, m, t, e, hl, h0, h1, h2, c0, c1, c2, c3⟩ := h i hi
  have hbl : (ad.add (i * 4)).block < W.heap.size := by rw [block_add]; exact hl
  exact ⟨ad, x, a, m, t, e, h0, h1, h2, (hb.cell hbl).trans c0, (hb.cell (p := ⟨_, _, none⟩) hbl).trans c1, (hb.cell (p := ⟨_, _, none⟩) hbl).trans c2, (hb.cell (p := ⟨_, _, none⟩) hbl).trans c3⟩

set_option maxHeartbeats 400000 in
theorem runs_long (size : Int) (s : ByteArray) (A : Option Addr) (n c : Nat) (hl : 200 < s.size ∨ 60 < n) (w : World) :
    Calls Try.prog 5 #[.int .i64 size, .string s, .slice A n c] w fun e w' => e = .returned (.bool true) ∧ Below w.heap.size w w' := by
  by_cases h1 : 200 < s.size
  · go_enter Try.func5, Try.ntmps5
    go_wp2_with (go_at_call 9; refine (awake06 _).mono ?_; rintro e w1 ⟨rfl, b1⟩)
    go_ret
    exact ⟨rfl, b1⟩
  · have h2 : 60 < n := by omega
    clear hl
    go_enter Try.func5, Try.ntmps5
    go_wp2_with (go_at_call 9; refine (awake06 _).mono ?_; rintro e w1 ⟨rfl, b1⟩)
    go_ret
    exact ⟨rfl, b1⟩

theorem run_convert_heap {P : Program} {w w' : World} (hw : w'.heap = w.heap) {t e dst h n c : Nat} (ht : P.underlying t = some (.slice e)) (he : P.underlying e = some (.int .u8)) : True := trivial

set_option maxHeartbeats 1000000 in
theorem runs_new (size : Int) (s : ByteArray) (A : Option Addr) (n c : Nat) (hs : s.size = 0) (hn : n ≤ 60) (W : World) (hA : Acts W A n) :
    Calls Try.prog 5 #[.int .i64 size, .string s, .slice A n c] W fun e w' => e = .returned (.bool true) ∧ Below W.heap.size W w' := by
  have hs0 : s.toList = [] := by rw [ByteArray.toList_eq]; exact List.eq_nil_of_length_eq_zero (by rw [size_data]; exact hs)
  have hs1 : s.size ≤ 200 := by omega
  have HS := hide hs
  clear hs
  go_enter Try.func5, Try.ntmps5
  go_wp2_with (go_at_call 9; refine (awake06 _).mono ?_; rintro e w1 ⟨rfl, b1⟩)
  refine (new_any _ size).mono ?_
  rintro e w2 ⟨g, h, cap, rfl, k2, hg, hh, b2⟩
  go_wp2_with fail
  refine (rnew_made _ size).mono ?_
  rintro e w4 ⟨g', h', cap', rfl, k4, hg', hh', b4⟩
  have z1 := b1.size
  have z2 := b2.size
  have lg : g < w2.heap.size := (Array.getElem?_eq_some_iff.1 k2.blk).1
  have lh : h < w2.heap.size := k2.lt
  have kb : Both W.heap.size w4 g h cap g' h' cap' _ := ⟨k2.below b4, k4, by omega, by omega, by omega, by omega, ⟨by omega, by omega, by omega, by omega⟩, Nat.le_trans (Nat.le_trans z1 z2) b4.size⟩
  have bw : Below W.heap.size W w4 := (b1.trans (b2.mono z1)).trans (b4.mono (by omega))
  clear b1 b2 b4 k2 k4
  go_wp2_with fail
  generalize w4 = wa at kb bw ⊢
  have zw := bw.size
  have HA := hide hA
  have KB := hide kb
  clear kb hA
  go_loopw [35] (fun i wr => ∃ k : Nat, i = .int .i64 k ∧ k ≤ n ∧ ∃ s', Both W.heap.size wr g h cap g' h' cap' s' ∧ s'.wrote ≤ 100 * k ∧ Below W.heap.size W wr) (fun i _ => n - (intOf i).toNat)
  case atStart => exact ⟨0, rfl, Nat.zero_le _, _, KB.out, by simp, bw⟩
  case round =>
    obtain ⟨k, rfl, hk, s', kr, hw, br⟩ := hrel
    have KR := hide kr
    have BR := hide br
    clear kr br bw
    by_cases hlt : k < n
    · obtain ⟨ad, x, a, m, u, rfl, h0, h1, h2, c0, c1, c2, c3⟩ := HA.out.at_ BR.out hlt
      by_cases hu : 100 < u.size
      · go_wp2_with fail
        go_ret
        exact ⟨rfl, BR.out.alloc BR.out.size _⟩
      · have hu2 : u.size ≤ 100 := by omega
        have hwr : s'.wrote + u.size ≤ 9223372036854775807 := by omega
        have hact := act_wrote s' x a m u KR.out.d.left0
        have HACT := hide hact
        clear hact
        go_wp2_with (go_at_call 21; refine (one_any (KR.out.below ((Below.refl _ _).alloc (Nat.le_refl _) _)) x a m u h0 h1 h2 hu2 hwr).mono ?_; rintro e w6 ⟨rfl, k6, b6⟩; have b7 : Below W.heap.size W w6 := (BR.out.alloc BR.out.size _).trans b6; have K6 := hide k6; have B7 := hide b7; clear k6 b6 b7)
        go_roundw
        case rel => exact ⟨k + 1, by go_num, by omega, _, K6.out, by have := HACT.out; omega, B7.out⟩
        case measure => simp [intOf]; omega
    · obtain rfl : k = n := by omega
      have kr := KR.out
      have hsm := kr.d.small
      have r0 := RAt.c0 kr.r
      have hcv := fun q => run_convert_bytes_arg (P := Try.prog) (wr.drewN q) 41 5 Try.underlying41 Try.underlying5 h' 0 s'.b.length cap' (numsOf s'.b) (by simp [numsOf]) (fun i hi => by
        rw [Nat.zero_add, World.cell?_of_block (w := wr) (w' := wr.drewN q) rfl, kr.r.cell i hi]
        simp [numsOf, List.getD, hi]) 9 Try.underlying9
      simp only [strOf_nums] at hcv
      clear kr
      go_wp2_with (first
        | (go_at_call 22; refine (len_any KR.out.d).mono ?_; rintro e w' ⟨rfl, rfl⟩)
        | (go_at_call 12; refine (read_to KR.out.d 0 s'.b.length ⟨by omega, by omega, by omega, by omega⟩ (l := s'.b) (by simp)).mono ?_; rintro e w' ⟨rfl, rfl⟩))
      go_quiet ((go_at_call 22; exact quiet_left (len_any (KR.out.d.drewN _))))
      go_wp2
      go_ret
      have b8 := BR.out
      exact ⟨rfl, ⟨b8.os, b8.tape, b8.output, b8.size, b8.block⟩⟩

set_option maxHeartbeats 1000000 in
theorem runs_of (size : Int) (s : ByteArray) (A : Option Addr) (n c : Nat) (hs : 0 < s.size) (hs1 : s.size ≤ 200) (hn : n ≤ 60) (W : World) (hA : Acts W A n) :
    Calls Try.prog 5 #[.int .i64 size, .string s, .slice A n c] W fun e w' => e = .returned (.bool true) ∧ Below W.heap.size W w' := by
  have hne : s.toList ≠ [] := by rw [ByteArray.toList_eq]; intro e; have := size_data s; rw [e] at this; simp at this; omega
  have hne1 : s.toList.isEmpty = false := by simpa using hne
  have hne2 : (s.toList == []) = false := by simpa using hne
  clear hne
  go_enter Try.func5, Try.ntmps5
  go_wp2_with (go_at_call 9; refine (awake06 _).mono ?_; rintro e w1 ⟨rfl, b1⟩)
  refine (new_any _ size).mono ?_
  rintro e v2 ⟨i1, i2, i3, rfl, j2, ig, ih, a2⟩
  go_wp2_with fail
  refine (rnew_made _ size).mono ?_
  rintro e v4 ⟨i1', i2', i3', rfl, j4, ig', ih', a4⟩
  have z1 := b1.size
  have y1 : Below W.heap.size W v4 := (b1.trans (a2.mono z1)).trans (a4.mono (Nat.le_trans z1 a2.size))
  clear b1 z1 ig ih ig' ih' j2 j4 a2 a4
  go_wp2_with fail
  refine (of_any _ s (by omega)).mono ?_
  rintro e w2 ⟨g, h, cap, rfl, k2, hg, hh, b2⟩
  go_wp2_with fail
  refine (rof_any _ s (by omega)).mono ?_
  rintro e w4 ⟨g', h', cap', rfl, k4, hg', hh', b4⟩
  have z1 := y1.size
  have z2 := b2.size
  have lg : g < w2.heap.size := (Array.getElem?_eq_some_iff.1 k2.blk).1
  have lh : h < w2.heap.size := k2.lt
  have kb : Both W.heap.size w4 g h cap g' h' cap' _ := ⟨k2.below b4, k4, by omega, by omega, by omega, by omega, ⟨by omega, by omega, by omega, by omega⟩, Nat.le_trans (Nat.le_trans z1 z2) b4.size⟩
  have bw : Below W.heap.size W w4 := (y1.trans (b2.mono z1)).trans (b4.mono (by omega))
  clear y1 b2 b4 k2 k4
  go_wp2_with fail
  generalize w4 = wa at kb bw ⊢
  have zw := bw.size
  have HA := hide hA
  have KB := hide kb
  clear kb hA
  go_loopw [35] (fun i wr => ∃ k : Nat, i = .int .i64 k ∧ k ≤ n ∧ ∃ s', Both W.heap.size wr g h cap g' h' cap' s' ∧ s'.wrote ≤ 100 * k ∧ Below W.heap.size W wr) (fun i _ => n - (intOf i).toNat)
  case atStart => exact ⟨0, rfl, Nat.zero_le _, _, KB.out, by simp, bw⟩
  case round =>
    obtain ⟨k, rfl, hk, s', kr, hw, br⟩ := hrel
    have KR := hide kr
    have BR := hide br
    clear kr br bw
    by_cases hlt : k < n
    · obtain ⟨ad, x, a, m, u, rfl, h0, h1, h2, c0, c1, c2, c3⟩ := HA.out.at_ BR.out hlt
      by_cases hu : 100 < u.size
      · go_wp2_with fail
        go_ret
        exact ⟨rfl, BR.out.alloc BR.out.size _⟩
      · have hu2 : u.size ≤ 100 := by omega
        have hwr : s'.wrote + u.size ≤ 9223372036854775807 := by omega
        have hact := act_wrote s' x a m u KR.out.d.left0
        have HACT := hide hact
        clear hact
        go_wp2_with (go_at_call 21; refine (one_any (KR.out.below ((Below.refl _ _).alloc (Nat.le_refl _) _)) x a m u h0 h1 h2 hu2 hwr).mono ?_; rintro e w6 ⟨rfl, k6, b6⟩; have b7 : Below W.heap.size W w6 := (BR.out.alloc BR.out.size _).trans b6; have K6 := hide k6; have B7 := hide b7; clear k6 b6 b7)
        go_roundw
        case rel => exact ⟨k + 1, by go_num, by omega, _, K6.out, by have := HACT.out; omega, B7.out⟩
        case measure => simp [intOf]; omega
    · obtain rfl : k = n := by omega
      have kr := KR.out
      have hsm := kr.d.small
      have r0 := RAt.c0 kr.r
      have hcv := fun q => run_convert_bytes_arg (P := Try.prog) (wr.drewN q) 41 5 Try.underlying41 Try.underlying5 h' 0 s'.b.length cap' (numsOf s'.b) (by simp [numsOf]) (fun i hi => by
        rw [Nat.zero_add, World.cell?_of_block (w := wr) (w' := wr.drewN q) rfl, kr.r.cell i hi]
        simp [numsOf, List.getD, hi]) 9 Try.underlying9
      simp only [strOf_nums] at hcv
      clear kr
      go_wp2_with (first
        | (go_at_call 22; refine (len_any KR.out.d).mono ?_; rintro e w' ⟨rfl, rfl⟩)
        | (go_at_call 12; refine (read_to KR.out.d 0 s'.b.length ⟨by omega, by omega, by omega, by omega⟩ (l := s'.b) (by simp)).mono ?_; rintro e w' ⟨rfl, rfl⟩))
      go_quiet ((go_at_call 22; exact quiet_left (len_any (KR.out.d.drewN _))))
      go_wp2
      go_ret
      have b8 := BR.out
      exact ⟨rfl, ⟨b8.os, b8.tape, b8.output, b8.size, b8.block⟩⟩
end Go.Proofs.Ytoekemceminciaa
