/- The walks of octets.Eye: numbers, Small, Left. -/
import Derived.Test.YtocbaapnajdcfaaDoorEy
import Derived.Laws.BitsAllLaws
import Derived.Lib.ConvBytes
namespace Go.Proofs.YtocbaapnajdcfaaDoor
open Go.RowKit
set_option linter.unusedVariables false
set_option linter.unusedSimpArgs false

theorem or_byte {m c : Nat} (hm : m < 16777216) (hc : c < 256) : bits .or .u32 ((m * 256 : Nat) : Int) (c : Int) = ((m * 256 + c : Nat) : Int) := by
  rw [u32_or_nat _ _ (by omega) (by omega), nat_join 8 (m * 256) c (by omega) hc]

theorem bytes_cell (w : World) (s : ByteArray) (j : Nat) (hj : j < s.size) : (Lib.bytesWorld w 5 s).cell? ⟨w.heap.size, j, none⟩ = some (.int .u8 (s[j].toNat : Int)) := by
  rw [blk_cell (Lib.bytesWorld_at_new w 5 s)]
  simp [Lib.bytesCells, Array.getElem?_append, hj]
  rfl

set_option maxRecDepth 100000 in
set_option maxHeartbeats 1000000 in
theorem eyenum_any {w : World} {g : Nat} {l : List UInt8} {p : Nat} (k : EyeAt w g l p false) (hl : l.length ≤ 1000) (n : Nat) (hn : p + n ≤ l.length) (hn4 : n ≤ 4) :
    Calls Tryd.prog 67 #[.pointer (some ⟨g, 0, none⟩), .int .i64 n] w fun e w' => e = .returned (.int .u32 (numB ((l.drop p).take n) : Nat)) ∧ EyeAt w' g l (p + n) false ∧ Only g g w w' := by
  have HC := hide (take_yes k hl n hn)
  obtain ⟨t, ht⟩ : ∃ t, (l.drop p).take n = t := ⟨_, rfl⟩
  have htl : t.length = n := by rw [← ht, List.length_take, List.length_drop]; omega
  rw [ht] at HC ⊢
  have hglt : g < w.heap.size := (Array.getElem?_eq_some_iff.1 k).1
  have hcv := fun W : World => Lib.run_convert_string_bytes (P := Tryd.prog) W 9 28 5 (ofL t) Tryd.underlying9 Tryd.underlying28 Tryd.underlying5
  clear k ht hn
  go_enter Tryd.func67, Tryd.ntmps67
  go_wp2_with fail
  refine HC.out.mono ?_
  rintro e w1 ⟨rfl, k1, o1⟩
  have K1 := hide k1
  have O1 := hide o1
  clear k1 o1 HC
  go_wp2_with fail
  clear hcv
  have hz := ofL_size t
  have hcap : (ofL t).size ≤ grownCap w1 (ofL t).size 0 5 := grownCap_ge _ _ _ _
  have hzb := Lib.bytesWorld_size w1 5 (ofL t)
  have kW : EyeAt (Lib.bytesWorld w1 5 (ofL t)) g l (p + n) false := (Lib.bytesWorld_at_old w1 5 (ofL t) g (Array.getElem?_eq_some_iff.1 K1.out).1).trans K1.out
  have oW : Only g g w (Lib.bytesWorld w1 5 (ofL t)) := O1.out.trans ⟨rfl, rfl, rfl, by omega, fun k hk _ _ => Lib.bytesWorld_at_old w1 5 (ofL t) k hk⟩
  have hcell := bytes_cell w1 (ofL t)
  have KW := hide kW; have OW := hide oW; have HCELL := hide hcell
  generalize grownCap w1 (ofL t).size 0 5 = cap at *
  generalize Lib.bytesWorld w1 5 (ofL t) = W at *
  generalize w1.heap.size = b at *
  have HZ := hide hz
  clear kW oW hcell hzb K1 O1 hz
  have hz := HZ.out
  go_loop [5, 13] (fun v i => NumRel t v i) (fun _ i => n - (intOf i).toNat)
  case atStart => exact ⟨0, Nat.zero_le _, rfl, rfl⟩
  case round =>
    obtain ⟨j, hj, rfl, rfl⟩ := hrel
    by_cases hlt : j < t.length
    · have hlt' : j < (ofL t).size := by omega
      obtain ⟨c, hcc⟩ : ∃ c : Nat, t[j].toNat = c := ⟨_, rfl⟩
      have hce : W.cell? ⟨b, j, none⟩ = some (.int .u8 (c : Int)) := by rw [HCELL.out j hlt', ← hcc]; rfl
      have hc2 : c < 256 := by have := t[j].toNat_lt; omega
      have hs : numB (t.take (j + 1)) = numB (t.take j) * 256 + c := by rw [List.take_succ_eq_append_getElem hlt, numB_snoc]; exact congrArg (numB (t.take j) * 256 + ·) hcc
      have hb := numB_lt (t.take j)
      have hlen : (t.take j).length = j := by rw [List.length_take]; omega
      rw [hlen] at hb
      have hb2 : numB (t.take j) < 16777216 := Nat.lt_of_lt_of_le hb (by
        have : 256 ^ j ≤ 256 ^ 3 := Nat.pow_le_pow_right (by omega) (by omega)
        simpa using this)
      obtain ⟨m, hm⟩ : ∃ m, numB (t.take j) = m := ⟨_, rfl⟩
      rw [hm] at hb2 hs ⊢
      have wc : IntKind.u32.wrap (c : Int) = (c : Int) := by rw [IntKind.wrap_u32']; omega
      have w2 : IntKind.u32.wrap ((m : Int) * 256) = ((m * 256 : Nat) : Int) := by rw [IntKind.wrap_u32']; omega
      have w3 := or_byte hb2 hc2
      have HS := hide hs
      have hji : (j : Int) < ((ofL t).size : Int) := by omega
      have hj0 : (0 : Int) ≤ (j : Int) := by omega
      obtain ⟨m2, hm2⟩ : ∃ m2, m * 256 = m2 := ⟨_, rfl⟩
      rw [hm2] at w2 w3
      have HM2 := hide hm2
      have hci : (c : Int) ≤ 255 := by omega
      have hmi : (m : Int) ≤ 16777215 := by omega
      clear hs hb hlen hm hb2 hcc hz hm2 hc2
      go_wp2
      go_round
      case rel => exact ⟨j + 1, by omega, by go_num, by rw [HS.out, HM2.out]; go_num⟩
      case measure => simp [intOf]; omega
    · obtain rfl : j = t.length := by omega
      rw [List.take_length]
      go_wp2
      go_ret
      exact ⟨rfl, KW.out, OW.out⟩

set_option maxHeartbeats 400000 in
theorem eyefour_any {w : World} {g : Nat} {l : List UInt8} {p : Nat} (k : EyeAt w g l p false) (hl : l.length ≤ 1000) (hn : p + 4 ≤ l.length) :
    Calls Tryd.prog 50 #[.pointer (some ⟨g, 0, none⟩)] w fun e w' => e = .returned (.int .u32 (numB ((l.drop p).take 4) : Nat)) ∧ EyeAt w' g l (p + 4) false ∧ Only g g w w' := by
  have HC := hide (eyenum_any k hl 4 hn (by omega))
  clear k hn
  go_enter Tryd.func50, Tryd.ntmps50
  go_wp2_with fail
  refine HC.out.mono ?_
  rintro e w1 ⟨rfl, k1, o1⟩
  go_wp2_with fail
  go_ret
  exact ⟨rfl, k1, o1⟩

set_option maxHeartbeats 400000 in
theorem eyetwo_any {w : World} {g : Nat} {l : List UInt8} {p : Nat} (k : EyeAt w g l p false) (hl : l.length ≤ 1000) (hn : p + 2 ≤ l.length) :
    Calls Tryd.prog 51 #[.pointer (some ⟨g, 0, none⟩)] w fun e w' => e = .returned (.int .u16 (numB ((l.drop p).take 2) : Nat)) ∧ EyeAt w' g l (p + 2) false ∧ Only g g w w' := by
  have HC := hide (eyenum_any k hl 2 hn (by omega))
  obtain ⟨m, hm⟩ : ∃ m, numB ((l.drop p).take 2) = m := ⟨_, rfl⟩
  have hlt : m < 65536 := by
    have := numB_lt ((l.drop p).take 2)
    have h2 : ((l.drop p).take 2).length = 2 := by rw [List.length_take, List.length_drop]; omega
    rw [h2, hm] at this
    exact this
  rw [hm] at HC ⊢
  have w1 : IntKind.u16.wrap (m : Int) = (m : Int) := by rw [IntKind.wrap_u16]; omega
  clear k hn hm hlt
  go_enter Tryd.func51, Tryd.ntmps51
  go_wp2_with fail
  refine HC.out.mono ?_
  rintro e w1 ⟨rfl, k1, o1⟩
  go_wp2_with fail
  go_ret
  exact ⟨rfl, k1, o1⟩

set_option maxHeartbeats 400000 in
theorem eyebyte_any {w : World} {g : Nat} {l : List UInt8} {p : Nat} (k : EyeAt w g l p false) (hl : l.length ≤ 1000) (hn : p + 1 ≤ l.length) :
    Calls Tryd.prog 68 #[.pointer (some ⟨g, 0, none⟩)] w fun e w' => e = .returned (.int .u8 (numB ((l.drop p).take 1) : Nat)) ∧ EyeAt w' g l (p + 1) false ∧ Only g g w w' := by
  have HC := hide (eyenum_any k hl 1 hn (by omega))
  obtain ⟨m, hm⟩ : ∃ m, numB ((l.drop p).take 1) = m := ⟨_, rfl⟩
  have hlt : m < 256 := by
    have := numB_lt ((l.drop p).take 1)
    have h2 : ((l.drop p).take 1).length = 1 := by rw [List.length_take, List.length_drop]; omega
    rw [h2, hm] at this
    exact this
  rw [hm] at HC ⊢
  have w1 : IntKind.u8.wrap (m : Int) = (m : Int) := by rw [IntKind.wrap_u8']; omega
  clear k hn hm hlt
  go_enter Tryd.func68, Tryd.ntmps68
  go_wp2_with fail
  refine HC.out.mono ?_
  rintro e w1 ⟨rfl, k1, o1⟩
  go_wp2_with fail
  go_ret
  exact ⟨rfl, k1, o1⟩

/-- What Small reads: its text; false: it goes blind. -/
theorem eyesmall_yes {w : World} {g : Nat} {l : List UInt8} {p : Nat} (k : EyeAt w g l p false) (hl : l.length ≤ 1000) (hn : p + 1 ≤ l.length) {m : Nat} (hm : numB ((l.drop p).take 1) = m) (hm2 : p + 1 + m ≤ l.length) :
    Calls Tryd.prog 52 #[.pointer (some ⟨g, 0, none⟩)] w fun e w' => e = .returned (.string (ofL ((l.drop (p + 1)).take m))) ∧ EyeAt w' g l (p + 1 + m) false ∧ Only g g w w' := by
  have HC := hide (eyebyte_any k hl hn)
  rw [hm] at HC
  have w1 : IntKind.i64.wrap (m : Int) = (m : Int) := by rw [IntKind.wrap_i64]; omega
  obtain ⟨t, ht⟩ : ∃ t, (l.drop (p + 1)).take m = t := ⟨_, rfl⟩
  rw [ht]
  have HT := hide ht; have HM := hide hm2
  clear k hn hm ht hm2
  go_enter Tryd.func52, Tryd.ntmps52
  go_wp2_with fail
  refine HC.out.mono ?_
  rintro e w1 ⟨rfl, k1, o1⟩
  have HC2 := hide (take_yes k1 hl m HM.out)
  rw [HT.out] at HC2
  clear k1 HC
  go_wp2_with fail
  refine HC2.out.mono ?_
  rintro e w2 ⟨rfl, k2, o2⟩
  go_wp2_with fail
  go_ret
  exact ⟨rfl, k2, o1.trans o2⟩

theorem eyesmall_no {w : World} {g : Nat} {l : List UInt8} {p : Nat} (k : EyeAt w g l p false) (hl : l.length ≤ 1000) (hn : p + 1 ≤ l.length) {m : Nat} (hm : numB ((l.drop p).take 1) = m) (hm2 : l.length < p + 1 + m) (hm3 : m < 256) :
    Calls Tryd.prog 52 #[.pointer (some ⟨g, 0, none⟩)] w fun e w' => e = .returned (.string ⟨#[]⟩) ∧ EyeAt w' g l (p + 1) true ∧ Only g g w w' := by
  have HC := hide (eyebyte_any k hl hn)
  rw [hm] at HC
  have w1 : IntKind.i64.wrap (m : Int) = (m : Int) := by rw [IntKind.wrap_i64]; omega
  have HM := hide hm2; have HN := hide hn
  clear k hn hm hm2
  go_enter Tryd.func52, Tryd.ntmps52
  go_wp2_with fail
  refine HC.out.mono ?_
  rintro e w1 ⟨rfl, k1, o1⟩
  have HC2 := hide (take_no k1 hl HN.out m HM.out)
  clear k1 HC
  go_wp2_with fail
  refine HC2.out.mono ?_
  rintro e w2 ⟨rfl, k2, o2⟩
  go_wp2_with fail
  go_ret
  exact ⟨rfl, k2, o1.trans o2⟩

set_option maxHeartbeats 400000 in
theorem eyeblind_any {w : World} {g : Nat} {l : List UInt8} {p : Nat} {b : Bool} (k : EyeAt w g l p b) :
    Calls Tryd.prog 53 #[.pointer (some ⟨g, 0, none⟩)] w fun e w' => e = .returned (.bool b) ∧ w = w' := by
  have k2 : w.cell? ⟨g, 2, none⟩ = some (.bool b) := blk_cell k 2
  clear k
  go_enter Tryd.func53, Tryd.ntmps53
  go_wp2
  go_ret
  exact ⟨rfl, rfl⟩

set_option maxHeartbeats 400000 in
theorem eyeleft_any {w : World} {g : Nat} {l : List UInt8} {p : Nat} (k : EyeAt w g l p false) (hl : l.length ≤ 1000) (hp : p ≤ l.length) :
    Calls Tryd.prog 56 #[.pointer (some ⟨g, 0, none⟩)] w fun e w' => e = .returned (.int .i64 (l.length - p : Nat)) ∧ EyeAt w' g l p false ∧ Only g g w w' := by
  have k0 : w.cell? ⟨g, 0, none⟩ = some (.string (ofL l)) := blk_cell k 0
  have k1 : w.cell? ⟨g, 1, none⟩ = some (.int .i64 p) := blk_cell k 1
  have hz := ofL_size l
  obtain ⟨X, hX⟩ : ∃ X, ofL l = X := ⟨_, rfl⟩
  rw [hX] at hz k0
  obtain ⟨n, hn⟩ : ∃ n, l.length - p = n := ⟨_, rfl⟩
  have hs1 : IntKind.i64.wrap ((X.size : Int) - (p : Int)) = (n : Int) := by rw [IntWalk.i64_in _ (by omega)]; omega
  rw [hn]
  have K := hide k
  have HB := hide (eyeblind_any k)
  clear k hX hz hn hp hl
  go_enter Tryd.func56, Tryd.ntmps56
  go_wp2_with fail
  refine HB.out.mono ?_
  rintro e w' ⟨rfl, rfl⟩
  go_wp2_with fail
  go_quiet (fail)
  go_wp2_with fail
  go_ret
  exact ⟨rfl, K.out, (Only.refl g g w).drewN nq⟩
end Go.Proofs.YtocbaapnajdcfaaDoor
