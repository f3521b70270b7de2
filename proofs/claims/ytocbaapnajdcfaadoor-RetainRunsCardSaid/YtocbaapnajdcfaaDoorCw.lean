/- The walks of package crc: quarter, More, Sum, Sealed, Open. -/
import Derived.Test.YtocbaapnajdcfaaDoorBl
import Derived.Test.YtocbaapnajdcfaaDoorCr
import Derived.Laws.BitsAllLaws
namespace Go.Proofs.YtocbaapnajdcfaaDoor
open Go.RowKit
set_option linter.unusedVariables false
set_option linter.unusedSimpArgs false

theorem and15 {n : Nat} (hn : n < 65536) {k : Nat} (hk : n % 16 = k) : bits .and .u16 (n : Int) 15 = (k : Int) := by
  have := u16_and_nat n 15 hn (by decide)
  rw [nat_mask4, hk] at this
  exact this

def quartV : Array Value := #[.int .u16 0, .int .u16 4129, .int .u16 8258, .int .u16 12387, .int .u16 16516, .int .u16 20645, .int .u16 24774, .int .u16 28903, .int .u16 33032, .int .u16 37161, .int .u16 41290, .int .u16 45419, .int .u16 49548, .int .u16 53677, .int .u16 57806, .int .u16 61935]
theorem quart_ix (k : Nat) (v : Value) (w : World) (h : (Instr.index 133 (.agg quartV) (.int .u16 (k : Nat))).run Tryd.prog w = .ok v w) : (Instr.index 133 (.agg quartV) (.int .u16 (k : Nat))).run Tryd.prog w = .ok v w := h
theorem quart_index (k : Nat) (hk : k < 16) (w : World) : (Instr.index 133 (.agg quartV) (.int .u16 (k : Nat))).run Tryd.prog w = .ok (.int .u16 (Crc.quart k : Nat)) w := by
  have h : k = 0 ∨ k = 1 ∨ k = 2 ∨ k = 3 ∨ k = 4 ∨ k = 5 ∨ k = 6 ∨ k = 7 ∨ k = 8 ∨ k = 9 ∨ k = 10 ∨ k = 11 ∨ k = 12 ∨ k = 13 ∨ k = 14 ∨ k = 15 := by omega
  rcases h with rfl | rfl | rfl | rfl | rfl | rfl | rfl | rfl | rfl | rfl | rfl | rfl | rfl | rfl | rfl | rfl
  · exact quart_ix _ _ _ (by kernel_rfl)
  · exact quart_ix _ _ _ (by kernel_rfl)
  · exact quart_ix _ _ _ (by kernel_rfl)
  · exact quart_ix _ _ _ (by kernel_rfl)
  · exact quart_ix _ _ _ (by kernel_rfl)
  · exact quart_ix _ _ _ (by kernel_rfl)
  · exact quart_ix _ _ _ (by kernel_rfl)
  · exact quart_ix _ _ _ (by kernel_rfl)
  · exact quart_ix _ _ _ (by kernel_rfl)
  · exact quart_ix _ _ _ (by kernel_rfl)
  · exact quart_ix _ _ _ (by kernel_rfl)
  · exact quart_ix _ _ _ (by kernel_rfl)
  · exact quart_ix _ _ _ (by kernel_rfl)
  · exact quart_ix _ _ _ (by kernel_rfl)
  · exact quart_ix _ _ _ (by kernel_rfl)
  · exact quart_ix _ _ _ (by kernel_rfl)

set_option maxRecDepth 100000 in
set_option maxHeartbeats 400000 in
theorem quarter_any (n : Nat) (hn : n < 65536) (w : World) : Calls Tryd.prog 89 #[.int .u16 n] w fun e w' => e = .returned (.int .u16 (Crc.quart (n % 16) : Nat)) ∧ w = w' := by
  obtain ⟨k, hk⟩ : ∃ k, n % 16 = k := ⟨_, rfl⟩
  have ha := and15 hn hk
  have hi := quart_index k (by omega)
  rw [hk]
  unfold quartV at hi
  clear hk
  go_enter Tryd.func89, Tryd.ntmps89
  go_wp2
  go_ret
  exact ⟨rfl, rfl⟩

theorem xor16 {a b : Nat} (ha : a < 65536) (hb : b < 65536) {x y : Int} (hx : x = a) (hy : y = b) : bits .xor .u16 x y = ((a ^^^ b : Nat) : Int) := by
  subst hx hy
  exact u16_xor_nat a b ha hb
theorem wrap16 {x : Int} {n : Nat} (h : x = n) : IntKind.u16.wrap x = ((n % 65536 : Nat) : Int) := by
  subst h
  rw [IntKind.wrap_u16]; omega
set_option maxRecDepth 100000 in
set_option maxHeartbeats 400000 in
theorem more_any (n : Nat) (hn : n < 65536) (s : ByteArray) (hs : s.size ≤ 140737488351232) (w : World) : Calls Tryd.prog 82 #[.int .u16 n, .string s] w fun e w' => e = .returned (.int .u16 (Crc.more n s.data.toList : Nat)) ∧ w = w' := by
  go_enter Tryd.func82, Tryd.ntmps82
  go_wp2
  go_loop [0, 9] (fun v i => ∃ k : Nat, k ≤ s.size ∧ i = .int .i64 k ∧ v = .int .u16 (Crc.more n (s.data.toList.take k) : Nat)) (fun _ i => s.size - (intOf i).toNat)
  case atStart => exact ⟨0, Nat.zero_le _, rfl, rfl⟩
  case round =>
    obtain ⟨k, hk, rfl, rfl⟩ := hrel
    by_cases hlt : k < s.size
    · obtain ⟨m, hm⟩ : ∃ m, Crc.more n (s.data.toList.take k) = m := ⟨_, rfl⟩
      have hm2 : m < 65536 := hm ▸ Crc.more_lt hn _
      rw [hm]
      have HM := hide hm
      clear hm
      obtain ⟨c, hc⟩ : ∃ c : Nat, s[k].toNat = c := ⟨_, rfl⟩
      have hc2 : c < 256 := by have := s[k].toNat_lt; omega
      have wc : IntKind.u16.wrap (s[k].toNat : Int) = (c : Int) := by rw [hc, IntKind.wrap_u16]; omega
      have w1 : IntKind.u16.wrap ((m : Int) * 16) = ((m * 16 % 65536 : Nat) : Int) := wrap16 (by simp)
      have hq1 : m / 4096 ^^^ c / 16 < 65536 := Crc.xor_lt16 (by omega) (by omega)
      have x1 : bits .xor .u16 ((m : Int) / 4096) ((c : Int) / 16) = ((m / 4096 ^^^ c / 16 : Nat) : Int) := xor16 (by omega) (by omega) (by simp) (by simp)
      obtain ⟨S, hS⟩ : ∃ S, (m * 16 % 65536) ^^^ Crc.quart ((m / 4096 ^^^ c / 16) % 16) = S := ⟨_, rfl⟩
      obtain ⟨hS2, hS3⟩ := Crc.nibs hm2 hc2 hS
      have x2 : bits .xor .u16 ((m * 16 % 65536 : Nat) : Int) ((Crc.quart ((m / 4096 ^^^ c / 16) % 16) : Nat) : Int) = (S : Int) := by rw [xor16 (by omega) (Crc.quart_lt _) rfl rfl, hS]
      have w2 : IntKind.u16.wrap ((S : Int) * 16) = ((S * 16 % 65536 : Nat) : Int) := wrap16 (by simp)
      have hq3 : S / 4096 ^^^ c < 65536 := Crc.xor_lt16 (by omega) (by omega)
      have x3 : bits .xor .u16 ((S : Int) / 4096) (c : Int) = ((S / 4096 ^^^ c : Nat) : Int) := xor16 (by omega) (by omega) (by simp) rfl
      have x4 : bits .xor .u16 ((S * 16 % 65536 : Nat) : Int) ((Crc.quart ((S / 4096 ^^^ c) % 16) : Nat) : Int) = ((Crc.bit8 (m ^^^ c * 256) : Nat) : Int) := by rw [xor16 (by omega) (Crc.quart_lt _) rfl rfl, hS3]
      have ls := size_data s
      have hlast : Crc.more n (s.data.toList.take (k + 1)) = Crc.bit8 (m ^^^ c * 256) := by
        rw [List.take_succ_eq_append_getElem (by omega), Crc.more_app, HM.out, ← hc]
        simp only [Crc.more, List.foldl_cons, List.foldl_nil, Crc.byte1]
        congr 4
      have HL := hide hlast
      clear hlast hS hS3 hc ls
      generalize m * 16 % 65536 = a1 at *
      generalize S * 16 % 65536 = a2 at *
      generalize Crc.bit8 (m ^^^ c * 256) = a3 at *
      generalize m / 4096 ^^^ c / 16 = b1 at *
      generalize S / 4096 ^^^ c = b2 at *
      go_wp2_with fail
      refine (quarter_any _ hq1 _).mono ?_
      rintro e w' ⟨rfl, rfl⟩
      go_wp2_with fail
      refine (quarter_any _ hq3 _).mono ?_
      rintro e w' ⟨rfl, rfl⟩
      go_wp2_with fail
      go_round
      case rel => exact ⟨k + 1, by omega, by go_num, by rw [HL.out]⟩
      case measure => simp [intOf]; omega
    · go_wp2
      go_ret
      have ls := size_data s
      rw [List.take_of_length_le (by omega)]
      exact ⟨rfl, rfl⟩

set_option maxHeartbeats 400000 in
theorem csum_any (s : ByteArray) (hs : s.size ≤ 140737488351232) (w : World) : Calls Tryd.prog 66 #[.string s] w fun e w' => e = .returned (.int .u16 (Crc.sum s.data.toList : Nat)) ∧ w = w' := by
  go_enter Tryd.func66, Tryd.ntmps66
  go_wp2_with (go_at_call 82; refine (more_any 65535 (by decide) s hs _).mono ?_; rintro e w' ⟨rfl, rfl⟩)
  go_ret
  exact ⟨rfl, rfl⟩

theorem two_bytes {w : World} {x y : UInt8} {t : TypeId} (ht : Tryd.prog.underlying 28 = some (.slice 5)) (b : Nat) (hb : w.heap[b]? = some (.cells #[.int .u8 (x.toNat : Int), .int .u8 (y.toNat : Int)] t (0, 0))) :
    (convert 28 9 (.slice (some ⟨b, 0, none⟩) 2 2)).run Tryd.prog w = .ok (.string (ofL [x, y])) w := by
  have := run_convert_bytes_arg (P := Tryd.prog) w 28 5 ht Tryd.underlying5 b 0 2 2 (numsOf [x, y]) rfl (fun j hj => by
    have hj2 : j < 2 := hj
    rw [blk_cell hb]
    match j, hj2 with
    | 0, _ => rfl
    | 1, _ => rfl) 9 Tryd.underlying9
  rw [this, strOf_nums]

set_option maxRecDepth 100000 in
set_option maxHeartbeats 400000 in
theorem csealed_any (s : ByteArray) (hs : s.size ≤ 1000) (w : World) : Calls Tryd.prog 46 #[.string s] w fun e w' => e = .returned (.string (ofL (Crc.sealL s.data.toList))) ∧ Below w.heap.size w w' := by
  obtain ⟨m, hm⟩ : ∃ m, Crc.sum s.data.toList = m := ⟨_, rfl⟩
  have hm2 : m < 65536 := hm ▸ Crc.sum_lt _
  have hc := csum_any s (by omega) w
  have hres : ofL (Crc.sealL s.data.toList) = s ++ ofL [UInt8.ofNat (m / 256), UInt8.ofNat (m % 256)] := by
    symm
    apply ofL_eq
    rw [data_append, ofL_data, ← hm]
    rfl
  rw [hres]
  rw [hm] at hc
  have w1 : IntKind.u8.wrap ((m : Int) / 256) = ((UInt8.ofNat (m / 256)).toNat : Int) := by rw [IntKind.wrap_u8']; simp <;> omega
  have w2 : IntKind.u8.wrap (m : Int) = ((UInt8.ofNat (m % 256)).toNat : Int) := by rw [IntKind.wrap_u8']; simp
  have hcv := two_bytes (w := w.alloc (.cells #[.int .u8 ((UInt8.ofNat (m / 256)).toNat : Int), .int .u8 ((UInt8.ofNat (m % 256)).toNat : Int)] 5)) Tryd.underlying28 w.heap.size (heap_alloc_new w _)
  generalize UInt8.ofNat (m / 256) = x at *
  generalize UInt8.ofNat (m % 256) = y at *
  have hz : (ofL [x, y]).size ≤ 2 := by rw [ofL_size]; exact Nat.le_refl 2
  have HC := hide hc
  clear hc hm hres
  go_enter Tryd.func46, Tryd.ntmps46
  go_wp2_with (go_at_call 66; refine HC.out.mono ?_; rintro e w' ⟨rfl, rfl⟩)
  go_ret
  exact ⟨rfl, (Below.refl _ _).alloc (Nat.le_refl _) _⟩

/-- What crc.Open tells. -/
def openOk (l : List UInt8) : Bool := decide (2 ≤ l.length) && decide (Crc.sum l = 0)

set_option maxHeartbeats 400000 in
theorem copen_yes (s : ByteArray) (hs : s.size ≤ 1000) (hy : openOk s.data.toList = true) (w : World) : Calls Tryd.prog 48 #[.string s] w fun e w' => e = .returned (.tuple #[.string (ofL (s.data.toList.take (s.size - 2))), .bool true]) ∧ w = w' := by
  simp only [openOk, Bool.and_eq_true, decide_eq_true_eq, size_data] at hy
  obtain ⟨h2, h0⟩ := hy
  have hc := csum_any s (by omega) w
  rw [h0] at hc
  have HC := hide hc
  have hx : s.extract 0 (s.size - 2) = ofL (s.data.toList.take (s.size - 2)) := by
    apply ofL_eq
    rw [data_extract]
    simp
  rw [← hx]
  clear hc h0 hx
  go_enter Tryd.func48, Tryd.ntmps48
  go_wp2_with (go_at_call 66; refine HC.out.mono ?_; rintro e w' ⟨rfl, rfl⟩)
  go_ret2
  exact ⟨rfl, rfl⟩

set_option maxHeartbeats 400000 in
theorem copen_no (s : ByteArray) (hs : s.size ≤ 1000) (hy : openOk s.data.toList = false) (w : World) : Calls Tryd.prog 48 #[.string s] w fun e w' => e = .returned (.tuple #[.string ⟨#[]⟩, .bool false]) ∧ w = w' := by
  obtain ⟨m, hm⟩ : ∃ m, Crc.sum s.data.toList = m := ⟨_, rfl⟩
  have hc := csum_any s (by omega) w
  simp only [openOk, Bool.and_eq_false_iff, decide_eq_false_iff_not, size_data] at hy
  rw [hm] at hc hy
  have HC := hide hc
  by_cases h2 : s.size < 2
  · clear hc hm hy
    go_enter Tryd.func48, Tryd.ntmps48
    go_wp2
    go_ret2
    exact ⟨rfl, rfl⟩
  · have hm0 : ((m : Int) != 0) = true := by simp; omega
    clear hc hm hy
    go_enter Tryd.func48, Tryd.ntmps48
    go_wp2_with (go_at_call 66; refine HC.out.mono ?_; rintro e w' ⟨rfl, rfl⟩)
    go_ret2
    exact ⟨rfl, rfl⟩
end Go.Proofs.YtocbaapnajdcfaaDoor
