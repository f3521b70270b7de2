/- The walks of the reference of layer 2: Bytes, Eye. -/
import Derived.Test.YtocbaapnajdcfaaDoorCv
namespace Go.Proofs.YtocbaapnajdcfaaDoor
open Go.RowKit
set_option linter.unusedVariables false
set_option linter.unusedSimpArgs false

/-- A number's last bytes, the highest first. -/
def beL (n : Nat) : Nat → List UInt8
  | 0 => []
  | k + 1 => UInt8.ofNat (n / 256 ^ k % 256) :: beL n k
theorem beL_length (n : Nat) : ∀ k, (beL n k).length = k
  | 0 => rfl
  | k + 1 => by simp [beL, beL_length n k]

theorem one_byte {w : World} {x : UInt8} {t : TypeId} (ht : Tryd.prog.underlying 28 = some (.slice 5)) (b : Nat) (hb : w.heap[b]? = some (.cells #[.int .u8 (x.toNat : Int)] t (0, 0))) :
    (convert 28 9 (.slice (some ⟨b, 0, none⟩) 1 1)).run Tryd.prog w = .ok (.string (ofL [x])) w := by
  have := run_convert_bytes_arg (P := Tryd.prog) w 28 5 ht Tryd.underlying5 b 0 1 1 (numsOf [x]) rfl (fun j hj => by
    have hj2 : j < 1 := hj
    rw [blk_cell hb]
    match j, hj2 with
    | 0, _ => rfl) 9 Tryd.underlying9
  rw [this, strOf_nums]

def BytesRel (w : World) (n c : Nat) (v s i : Value) (wr : World) : Prop :=
  ∃ k : Nat, k ≤ c ∧ i = .int .i64 k ∧ s = .string (ofL (beL n k)) ∧ v = .int .u32 (n / 256 ^ k : Nat) ∧ Below w.heap.size w wr

set_option maxRecDepth 100000 in
set_option maxHeartbeats 1000000 in
theorem rbytes_any (n c : Nat) (hn : n < 4294967296) (hc : c ≤ 100) (w : World) : Calls Tryd.prog 22 #[.int .u32 n, .int .i64 c] w fun e w' => e = .returned (.string (ofL (beL n c))) ∧ Below w.heap.size w w' := by
  go_enter Tryd.func22, Tryd.ntmps22
  go_wp2
  go_loopw [0, 5, 6] (fun v s i wr => BytesRel w n c v s i wr) (fun _ _ i _ => c - (intOf i).toNat)
  case atStart => exact ⟨0, Nat.zero_le _, rfl, rfl, by simp, Below.refl _ _⟩
  case round =>
    obtain ⟨k, hk, rfl, rfl, rfl, hbw⟩ := hrel
    by_cases hlt : k < c
    · obtain ⟨m, hm⟩ : ∃ m, n / 256 ^ k = m := ⟨_, rfl⟩
      have hmlt : m < 4294967296 := hm ▸ Nat.lt_of_le_of_lt (Nat.div_le_self _ _) hn
      have hm2 : (m : Int) ≤ 4294967295 := by omega
      have hd : n / 256 ^ (k + 1) = m / 256 := by rw [Nat.pow_succ, ← Nat.div_div_eq_div_mul, hm]
      have hbe : beL n (k + 1) = UInt8.ofNat (m % 256) :: beL n k := by rw [← hm]; rfl
      obtain ⟨x, hx⟩ : ∃ x, UInt8.ofNat (m % 256) = x := ⟨_, rfl⟩
      have w1 : IntKind.u8.wrap ((m : Int) % 256) = (x.toNat : Int) := by rw [← hx, IntKind.wrap_u8']; simp
      have hl : (ofL (beL n k)).size ≤ 100 := by rw [ofL_size, beL_length]; omega
      have hz : (ofL [x]).size ≤ 1 := by rw [ofL_size]; exact Nat.le_refl 1
      have hcat : ofL [x] ++ ofL (beL n k) = ofL (beL n (k + 1)) := by
        apply ofL_eq
        rw [data_append, ofL_data, ofL_data, hbe, hx]
        rfl
      have hcv := one_byte (w := wr.alloc (.cells #[.int .u8 (x.toNat : Int)] 5)) Tryd.underlying28 wr.heap.size (heap_alloc_new wr _)
      rw [hm]
      have HD := hide hd
      have HB := hide hbw
      clear hbe hd hm hx hmlt hn hbw
      go_wp2
      go_roundw
      case rel => exact ⟨k + 1, by omega, by go_num, rfl, by rw [HD.out]; go_num, HB.out.alloc HB.out.size _⟩
      case measure => simp [intOf]; omega
    · obtain rfl : k = c := by omega
      go_wp2
      go_ret
      exact ⟨rfl, hbw⟩
end Go.Proofs.YtocbaapnajdcfaaDoor
