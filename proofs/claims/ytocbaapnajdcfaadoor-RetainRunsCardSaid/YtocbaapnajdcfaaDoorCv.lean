/- The walks of the reference of layer 1 (More, Sum, Sealed) and of Bytes of layer 2's. -/
import Derived.Test.YtocbaapnajdcfaaDoorCw
namespace Go.Proofs.YtocbaapnajdcfaaDoor
open Go.RowKit
set_option linter.unusedVariables false
set_option linter.unusedSimpArgs false

theorem ofInt_i64 (a : Nat) (ha : a < 9223372036854775808) : (BitVec.ofInt 64 (a : Int)).toNat = a := by
  rw [BitVec.ofInt_natCast, BitVec.toNat_ofNat]; exact Nat.mod_eq_of_lt (by omega)
theorem i64_xor_nat (a b : Nat) (ha : a < 9223372036854775808) (hb : b < 9223372036854775808) : bits .xor .i64 (a : Int) (b : Int) = ((a ^^^ b : Nat) : Int) := by
  have hx : a ^^^ b < 2 ^ 63 := Nat.xor_lt_two_pow (by omega) (by omega)
  show IntKind.i64.wrap ((BitVec.ofInt 64 (a : Int) ^^^ BitVec.ofInt 64 (b : Int)).toNat : Int) = _
  rw [BitVec.toNat_xor, ofInt_i64 a ha, ofInt_i64 b hb, IntKind.wrap_i64]
  omega
theorem xor64 {a b : Nat} (ha : a < 9223372036854775808) (hb : b < 9223372036854775808) {x y : Int} (hx : x = a) (hy : y = b) : bits .xor .i64 x y = ((a ^^^ b : Nat) : Int) := by
  subst hx hy
  exact i64_xor_nat a b ha hb

def BitRel (a : Nat) (v i : Value) : Prop := ∃ j : Nat, j ≤ 8 ∧ i = .int .i64 j ∧ v = .int .i64 (Crc.bitsN j a : Nat)

set_option maxRecDepth 100000 in
set_option maxHeartbeats 1000000 in
theorem rmore_any (n : Nat) (hn : n < 65536) (s : ByteArray) (hs : s.size ≤ 140737488351232) (w : World) : Calls Tryd.prog 39 #[.int .u16 n, .string s] w fun e w' => e = .returned (.int .u16 (Crc.more n s.data.toList : Nat)) ∧ w = w' := by
  go_enter Tryd.func39, Tryd.ntmps39
  go_wp2
  go_loop [5, 6] (fun v i => ∃ k : Nat, k ≤ s.size ∧ i = .int .i64 k ∧ v = .int .i64 (Crc.more n (s.data.toList.take k) : Nat)) (fun _ i => s.size - (intOf i).toNat)
  case atStart => exact ⟨0, Nat.zero_le _, rfl, rfl⟩
  case round =>
    obtain ⟨k, hk, rfl, rfl⟩ := hrel
    by_cases hlt : k < s.size
    · obtain ⟨m, hm⟩ : ∃ m, Crc.more n (s.data.toList.take k) = m := ⟨_, rfl⟩
      have hm2 : m < 65536 := hm ▸ Crc.more_lt hn _
      rw [hm]
      obtain ⟨c, hc⟩ : ∃ c : Nat, s[k].toNat = c := ⟨_, rfl⟩
      have hc2 : c < 256 := by have := s[k].toNat_lt; omega
      have wc : IntKind.i64.wrap (s[k].toNat : Int) = (c : Int) := by rw [hc, IntKind.wrap_i64]; omega
      obtain ⟨a, ha⟩ : ∃ a, m ^^^ c * 256 = a := ⟨_, rfl⟩
      have ha2 : a < 65536 := ha ▸ Crc.xor_lt16 hm2 (by omega)
      have x1 : bits .xor .i64 (m : Int) ((c : Int) * 256) = (a : Int) := by rw [xor64 (a := m) (b := c * 256) (by omega) (by omega) rfl (by simp), ha]
      have ls := size_data s
      have hlast : Crc.more n (s.data.toList.take (k + 1)) = Crc.bit8 a := by
        rw [List.take_succ_eq_append_getElem (by omega), Crc.more_app, hm, ← ha, ← hc]
        simp only [Crc.more, List.foldl_cons, List.foldl_nil, Crc.byte1]
        congr 4
      have HL := hide hlast
      clear hlast hc ls ha hm
      go_wp2_with fail
      clear x1 wc
      obtain ⟨wo, rfl⟩ : ∃ wo : World, wo = w := ⟨_, rfl⟩
      go_loop [5, 7] (fun v i => BitRel a v i) (fun _ i => 8 - (intOf i).toNat)
      case atStart => exact ⟨0, Nat.zero_le _, rfl, rfl⟩
      case round =>
        obtain ⟨j, hj, rfl, rfl⟩ := hrel
        rename_i hwx
        clear hwx
        by_cases hj2 : j < 8
        · have hb2 := Crc.bitsN_lt ha2 j
          have hnx : Crc.bitsN (j + 1) a = Crc.bit1 (Crc.bitsN j a) := rfl
          have HN := hide hnx
          clear hnx
          obtain ⟨b, hb⟩ : ∃ b, Crc.bitsN j a = b := ⟨_, rfl⟩
          rw [hb] at hb2 HN
          rw [hb]
          clear hb
          obtain ⟨d, hd⟩ : ∃ d, 2 * b = d := ⟨_, rfl⟩
          have hd2 : (2 : Int) * (b : Int) = (d : Int) := by omega
          have hd3 : d < 131072 := by omega
          by_cases hbig : 65536 ≤ d
          · have hr : Crc.bitsN (j + 1) a = (d - 65536) ^^^ 4129 := by rw [HN.out, Crc.bit1_yes (by omega), hd]
            obtain ⟨f, hf⟩ : ∃ f, d - 65536 = f := ⟨_, rfl⟩
            have hf2 : (d : Int) - 65536 = (f : Int) := by omega
            rw [hf] at hr
            obtain ⟨y, hy⟩ : ∃ y, f ^^^ 4129 = y := ⟨_, rfl⟩
            have x2 : bits .xor .i64 (f : Int) 4129 = (y : Int) := (xor64 (a := f) (b := 4129) (by omega) (by omega) rfl rfl).trans (by rw [hy])
            rw [hy] at hr
            have HR := hide hr
            clear hr HN hy hf hd
            have hI : decide ((65536 : Int) ≤ (d : Int)) = true := by simp; omega
            have hB : (d : Int) ≤ 131071 := by omega
            have hC : (f : Int) ≤ 131071 := by omega
            clear hbig hd3 hb2 ha2 hc2 hm2 hn
            go_wp2
            go_round
            case rel => exact ⟨j + 1, by omega, by go_num, by rw [HR.out]⟩
            case measure => simp [intOf]; omega
          · have hr : Crc.bitsN (j + 1) a = d := by rw [HN.out, Crc.bit1_no (by omega), hd]
            have HR := hide hr
            have hI : decide ((65536 : Int) ≤ (d : Int)) = false := by simp; omega
            have hB : (d : Int) ≤ 131071 := by omega
            clear hr HN hd hbig hd3 hb2 ha2 hc2 hm2 hn
            go_wp2
            go_round
            case rel => exact ⟨j + 1, by omega, by go_num, by rw [HR.out]⟩
            case measure => simp [intOf]; omega
        · obtain rfl : j = 8 := by omega
          go_wp2
          go_round
          case rel => exact ⟨k + 1, by omega, by go_num, by rw [HL.out, Crc.bitsN_8]⟩
          case measure => simp [intOf]; omega
    · go_wp2
      go_ret
      have ls := size_data s
      have hl := Crc.more_lt hn s.data.toList
      rw [List.take_of_length_le (by omega)]
      refine ⟨?_, rfl⟩
      rw [IntKind.wrap_u16]
      exact ret_int (by omega)

set_option maxHeartbeats 400000 in
theorem rsum_any (s : ByteArray) (hs : s.size ≤ 140737488351232) (w : World) : Calls Tryd.prog 33 #[.string s] w fun e w' => e = .returned (.int .u16 (Crc.sum s.data.toList : Nat)) ∧ w = w' := by
  go_enter Tryd.func33, Tryd.ntmps33
  go_wp2_with (go_at_call 39; refine (rmore_any 65535 (by decide) s hs _).mono ?_; rintro e w' ⟨rfl, rfl⟩)
  go_ret
  exact ⟨rfl, rfl⟩

set_option maxRecDepth 100000 in
set_option maxHeartbeats 400000 in
theorem rsealed_any (s : ByteArray) (hs : s.size ≤ 1000) (w : World) : Calls Tryd.prog 23 #[.string s] w fun e w' => e = .returned (.string (ofL (Crc.sealL s.data.toList))) ∧ Below w.heap.size w w' := by
  obtain ⟨m, hm⟩ : ∃ m, Crc.sum s.data.toList = m := ⟨_, rfl⟩
  have hm2 : m < 65536 := hm ▸ Crc.sum_lt _
  have hc := rsum_any s (by omega) w
  have hres : ofL (Crc.sealL s.data.toList) = s ++ ofL [UInt8.ofNat (m / 256), UInt8.ofNat (m % 256)] := by
    symm
    apply ofL_eq
    rw [data_append, ofL_data, ← hm]
    rfl
  rw [hres]
  rw [hm] at hc
  have w1 : IntKind.u8.wrap ((m : Int) / 256) = ((UInt8.ofNat (m / 256)).toNat : Int) := by rw [IntKind.wrap_u8']; simp <;> omega
  have w2 : IntKind.u8.wrap ((m : Int) % 256) = ((UInt8.ofNat (m % 256)).toNat : Int) := by rw [IntKind.wrap_u8']; simp
  have hcv := two_bytes (w := w.alloc (.cells #[.int .u8 ((UInt8.ofNat (m / 256)).toNat : Int), .int .u8 ((UInt8.ofNat (m % 256)).toNat : Int)] 5)) Tryd.underlying28 w.heap.size (heap_alloc_new w _)
  generalize UInt8.ofNat (m / 256) = x at *
  generalize UInt8.ofNat (m % 256) = y at *
  have hz : (ofL [x, y]).size ≤ 2 := by rw [ofL_size]; exact Nat.le_refl 2
  have HC := hide hc
  clear hc hm hres
  go_enter Tryd.func23, Tryd.ntmps23
  go_wp2_with (go_at_call 33; refine HC.out.mono ?_; rintro e w' ⟨rfl, rfl⟩)
  go_ret
  exact ⟨rfl, (Below.refl _ _).alloc (Nat.le_refl _) _⟩
end Go.Proofs.YtocbaapnajdcfaaDoor
