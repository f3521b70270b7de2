/- Layer 3: what the library's calls lean on; Text, the reference's Digits and Text. -/
import Derived.Test.YtjmdkhjfjlodmaaDoorEe
import Derived.Test.YtjmdkhjfjlodmaaDoorShelf
import Derived.Lib.ItoaMem
namespace Go.Proofs.YtjmdkhjfjlodmaaDoor
open Go.RowKit
set_option linter.unusedVariables false
set_option linter.unusedSimpArgs false
attribute [local go_sem] ofL_toList

theorem var_old {P : Program} {w w' : World} {n : String} {cs : Array Value} (hv : w.var? P n = some cs) (b : Below w.heap.size w w') : w'.var? P n = some cs := by
  unfold World.var? at hv ⊢
  cases hg : P.globalNamed n with
  | none => simp [hg] at hv
  | some g =>
    simp only [hg, Option.bind_some] at hv ⊢
    cases hh : w.heap[g]? with
    | none => simp [hh] at hv
    | some o => rw [b.block g (Array.getElem?_eq_some_iff.1 hh).1]; exact hv

/-- The package variables on which the library's calls lean. -/
structure Env (w : World) : Prop where
  hm : ∃ m : Int, w.cell? ⟨2, 0, none⟩ = some (.int .i64 m)
  tab : Lib.TabIs Tryd.prog w "internal/strconv.uint64pow10" .u64 Lib.pow10Tab
  syn : ∃ (tp : TypeId) (p : Value), w.var? Tryd.prog "strconv.ErrSyntax" = some #[.iface tp p]
  rng : ∃ (tp : TypeId) (p : Value), w.var? Tryd.prog "strconv.ErrRange" = some #[.iface tp p]
theorem Env.below {w w' : World} (h : Env w) (b : Below w.heap.size w w') : Env w' := by
  obtain ⟨⟨m, h1⟩, h2, ⟨tp, p, h3⟩, ⟨tp', p', h4⟩⟩ := h
  exact ⟨⟨m, (b.cell (World.block_lt_of_cell? _ _ h1)).trans h1⟩, var_old h2 b, ⟨tp, p, var_old h3 b⟩, ⟨tp', p', var_old h4 b⟩⟩

/-- A number's decimal digits. -/
abbrev dd (n : Nat) : List UInt8 := Lib.decDigits n
theorem dd_len : ∀ k n, n < 10 ^ (k + 1) → (dd n).length ≤ k + 1 := by
  intro k
  induction k with
  | zero =>
    intro n hn
    unfold dd
    rw [Lib.decDigits, dif_pos (by simpa using hn)]
    exact Nat.le_refl _
  | succ k ih =>
    intro n hn
    by_cases h : n < 10
    · unfold dd
      rw [Lib.decDigits, dif_pos h]
      simp
    · unfold dd
      rw [Lib.decDigits, dif_neg h, List.length_append]
      have := ih (n / 10) (by rw [Nat.pow_succ] at hn; omega)
      unfold dd at this
      simp
      omega
theorem dd_len5 {n : Nat} (h : n < 65536) : (dd n).length ≤ 5 := dd_len 4 n (by omega)
theorem dd_small {n : Nat} (h : n < 10) : dd n = [UInt8.ofNat (48 + n)] := by unfold dd; rw [Lib.decDigits, dif_pos h]
theorem dd_great {n : Nat} (h : 10 ≤ n) : dd n = dd (n / 10) ++ [UInt8.ofNat (48 + n % 10)] := by unfold dd; rw [Lib.decDigits, dif_neg (by omega)]

theorem grow_below (w : World) (k : Nat) (os : Array Obj) : Below w.heap.size w (Go.Sort.grow (w.drewN k) os) := by
  refine ⟨rfl, rfl, rfl, ?_, fun i hi => ?_⟩
  · show w.heap.size ≤ (w.heap ++ os).size
    simp
  · show (w.heap ++ os)[i]? = w.heap[i]?
    rw [Array.getElem?_append_left hi]

theorem itoa_in {W : World} (hE : Env W) (n : Nat) (hn : n < 65536) {w : World} (hb : BS W w) :
    Calls Tryd.prog 26 #[.int .i64 n] w fun e w' => e = .returned (.string (ofL (dd n))) ∧ Below w.heap.size w w' := by
  refine (Tryd.strconv_Itoa n (by omega) (by omega) w (hE.below hb.2).tab).mono ?_
  rintro e w' ⟨rfl, k, os, rfl⟩
  refine ⟨?_, ?_⟩
  · rw [Lib.itoa_nonneg]; rfl
  · exact grow_below _ _ _

/-- An epoch's text. -/
def Ep.text (e : Ep) : List UInt8 := dd e.c ++ [46] ++ dd e.a ++ [46] ++ dd e.i

theorem one_byte {w : World} {x : UInt8} {t : TypeId} (ht : Tryd.prog.underlying 61 = some (.slice 5)) (b : Nat) (hb : w.heap[b]? = some (.cells #[.int .u8 (x.toNat : Int)] t (0, 0))) :
    (convert 61 9 (.slice (some ⟨b, 0, none⟩) 1 1)).run Tryd.prog w = .ok (.string (ofL [x])) w := by
  have := run_convert_bytes_arg (P := Tryd.prog) w 61 5 ht Tryd.underlying5 b 0 1 1 (numsOf [x]) rfl (fun j hj => by
    have hj2 : j < 1 := hj
    rw [blk_cell hb]
    match j, hj2 with
    | 0, _ => rfl) 9 Tryd.underlying9
  rw [this, strOf_nums]

def DigRel (w : World) (N : Nat) (v0 v3 : Value) (wr : World) : Prop :=
  ∃ (m : Nat) (S : List UInt8), m ≤ N ∧ v0 = .int .i64 m ∧ v3 = .string (ofL S) ∧ dd N = dd m ++ S ∧ Below w.heap.size w wr

set_option maxRecDepth 100000 in
set_option maxHeartbeats 1000000 in
theorem digits_any (N : Nat) (hN : N < 65536) (w : World) : Calls Tryd.prog 27 #[.int .i64 N] w fun e w' => e = .returned (.string (ofL (dd N))) ∧ Below w.heap.size w w' := by
  go_enter Tryd.func27, Tryd.ntmps27
  go_wp2
  go_loopw [0, 3] (fun v0 v3 wr => DigRel w N v0 v3 wr) (fun i _ _ => (intOf i).toNat)
  case atStart => exact ⟨N, [], Nat.le_refl _, rfl, rfl, by simp, Below.refl _ _⟩
  case round =>
    obtain ⟨m, S, hm, rfl, rfl, hdd, hbw⟩ := hrel
    have hSl : S.length ≤ 5 := by
      have h1 := dd_len5 hN
      rw [hdd, List.length_append] at h1
      omega
    have hS : (ofL S).size ≤ 5 := by rw [ofL_size]; exact hSl
    by_cases hlt : 10 ≤ m
    · obtain ⟨x, hx⟩ : ∃ x, UInt8.ofNat (48 + m % 10) = x := ⟨_, rfl⟩
      have hd2 : dd N = dd (m / 10) ++ ([x] ++ S) := by rw [hdd, dd_great hlt, hx, List.append_assoc]
      have w1 : IntKind.u8.wrap (48 + (m : Int) % 10) = (x.toNat : Int) := by rw [← hx, IntKind.wrap_u8']; simp
      have hz : (ofL [x]).size ≤ 1 := by rw [ofL_size]; exact Nat.le_refl 1
      have hcat : ofL [x] ++ ofL S = ofL ([x] ++ S) := by
        apply ofL_eq
        rw [data_append, ofL_data, ofL_data]
      have hcv := one_byte (w := wr.alloc (.cells #[.int .u8 (x.toNat : Int)] 5)) Tryd.underlying61 wr.heap.size (heap_alloc_new wr _)
      have hm2 : (m : Int) ≤ 65535 := by omega
      have hm3 : (10 : Int) ≤ (m : Int) := by omega
      have HB := hide hbw; have HD := hide hd2
      clear hdd hx hbw hd2 hSl
      go_wp2
      go_roundw
      case rel => exact ⟨m / 10, [x] ++ S, by omega, by go_num, by first | rfl | rw [hcat], HD.out, HB.out.alloc HB.out.size _⟩
      case measure => simp [intOf]; omega
    · obtain ⟨x, hx⟩ : ∃ x, UInt8.ofNat (48 + m) = x := ⟨_, rfl⟩
      have hd2 : dd N = [x] ++ S := by rw [hdd, dd_small (by omega), hx]
      have w1 : IntKind.u8.wrap (48 + (m : Int)) = (x.toNat : Int) := by rw [← hx, IntKind.wrap_u8']; simp
      have hz : (ofL [x]).size ≤ 1 := by rw [ofL_size]; exact Nat.le_refl 1
      have hcat : ofL [x] ++ ofL S = ofL (dd N) := by
        apply ofL_eq
        rw [data_append, ofL_data, ofL_data, hd2]
      have hcv := one_byte (w := wr.alloc (.cells #[.int .u8 (x.toNat : Int)] 5)) Tryd.underlying61 wr.heap.size (heap_alloc_new wr _)
      have hm3 : ¬ (10 : Int) ≤ (m : Int) := by omega
      have HB := hide hbw
      clear hdd hx hbw hd2 hSl
      go_wp2
      go_ret
      exact ⟨rfl, HB.out.alloc HB.out.size _⟩
end Go.Proofs.YtjmdkhjfjlodmaaDoor
