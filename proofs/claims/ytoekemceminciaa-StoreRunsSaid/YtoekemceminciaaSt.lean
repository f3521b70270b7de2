/- The walks of package store: what each method does to the store's two blocks. -/
import Derived.Test.YtoekemceminciaaRows
import Derived.WalkKit
import Derived.WalkSpells
import Derived.WalkLawsBesides
import Derived.Handy
import Derived.Lib.LazyBuf
import Derived.Lib.ConvBytes
import Derived.Deep.RegionLaw
namespace Go.Proofs.Ytoekemceminciaa
open Go.RowKit
set_option linter.unusedVariables false
set_option linter.unusedSimpArgs false

theorem hide {p : Prop} (h : p) : Hid p := h

structure St where
  b : List UInt8
  dark : Bool
  armed : Bool
  left : Int
  wrote : Int

/-- A store in memory: its struct in block g, its bytes in block h. -/
structure StAt (w : World) (g h cap : Nat) (s : St) : Prop where
  blk : w.heap[g]? = some (.cells #[.slice (some ⟨h, 0, none⟩) s.b.length cap, .bool s.dark, .bool s.armed, .int .i64 s.left, .int .i64 s.wrote] 75 (0, 0))
  ne : g ≠ h
  cell : ∀ i (hi : i < s.b.length), w.cell? ⟨h, i, none⟩ = some (.int .u8 (s.b[i].toNat : Int))
  free : ∀ i, i < s.b.length → w.frozen? ⟨h, i, none⟩ = false
  lt : h < w.heap.size
  le : s.b.length ≤ cap
  small : s.b.length ≤ 1000
  left0 : 0 ≤ s.left
  left1 : s.left ≤ 9223372036854775807
  wrote0 : 0 ≤ s.wrote

theorem blk_cell {w : World} {g : Nat} {t : TypeId} {cs : Array Value} {m} (h : w.heap[g]? = some (.cells cs t m)) (i : Nat) : w.cell? ⟨g, i, none⟩ = cs[i]? := cell_of_row w g i cs t m h
theorem blk_frozen {w : World} {g : Nat} {t : TypeId} {cs : Array Value} (h : w.heap[g]? = some (.cells cs t (0, 0))) (i : Nat) : w.frozen? ⟨g, i, none⟩ = false := by simp [World.frozen?, h]

section
variable {w : World} {g h cap : Nat} {s : St}
theorem StAt.c0 (k : StAt w g h cap s) : w.cell? ⟨g, 0, none⟩ = some (.slice (some ⟨h, 0, none⟩) s.b.length cap) := (blk_cell k.blk 0).trans rfl
theorem StAt.c1 (k : StAt w g h cap s) : w.cell? ⟨g, 1, none⟩ = some (.bool s.dark) := (blk_cell k.blk 1).trans rfl
theorem StAt.c2 (k : StAt w g h cap s) : w.cell? ⟨g, 2, none⟩ = some (.bool s.armed) := (blk_cell k.blk 2).trans rfl
theorem StAt.c3 (k : StAt w g h cap s) : w.cell? ⟨g, 3, none⟩ = some (.int .i64 s.left) := (blk_cell k.blk 3).trans rfl
theorem StAt.c4 (k : StAt w g h cap s) : w.cell? ⟨g, 4, none⟩ = some (.int .i64 s.wrote) := (blk_cell k.blk 4).trans rfl
theorem StAt.f (k : StAt w g h cap s) (i : Nat) : w.frozen? ⟨g, i, none⟩ = false := blk_frozen k.blk i
end

set_option maxHeartbeats 400000 in
theorem len_any {w : World} {g h cap : Nat} {s : St} (k : StAt w g h cap s) :
    Calls Try.prog 22 #[.pointer (some ⟨g, 0, none⟩)] w fun e w' => e = .returned (.int .i64 (s.b.length : Int)) ∧ w = w' := by
  have k0 := k.c0
  clear k
  go_enter Try.func22, Try.ntmps22
  go_wp2
  go_ret
  exact ⟨rfl, rfl⟩


def There (n : Nat) (a m : Int) : Prop := 0 ≤ a ∧ a ≤ n ∧ 0 ≤ m ∧ m ≤ n - a

set_option maxHeartbeats 400000 in
theorem there_yes {w : World} {g h cap : Nat} {s : St} (k : StAt w g h cap s) (a m : Int) (hy : There s.b.length a m) :
    Calls Try.prog 32 #[.pointer (some ⟨g, 0, none⟩), .int .i64 a, .int .i64 m] w fun e w' => e = .returned (.bool true) ∧ w = w' := by
  obtain ⟨h1, h2, h3, h4⟩ := hy
  have hs := k.small
  go_enter Try.func32, Try.ntmps32
  go_wp2_with (go_at_call 22; refine (len_any k).mono ?_; rintro e w' ⟨rfl, rfl⟩)
  go_ret
  exact ⟨rfl, rfl⟩

set_option maxHeartbeats 400000 in
theorem there_no {w : World} {g h cap : Nat} {s : St} (k : StAt w g h cap s) (a m : Int) (hy : ¬ There s.b.length a m) :
    Calls Try.prog 32 #[.pointer (some ⟨g, 0, none⟩), .int .i64 a, .int .i64 m] w fun e w' => e = .returned (.bool false) ∧ w = w' := by
  have hs := k.small
  unfold There at hy
  have HY := hide hy
  clear hy
  go_enter Try.func32, Try.ntmps32
  go_wp2_with (go_at_call 22; refine (len_any k).mono ?_; rintro e w' ⟨rfl, rfl⟩)
  all_goals (go_ret; refine ⟨?_, rfl⟩)
  all_goals (have hy := HY.out; first | (simp; omega) | rfl | skip)

set_option maxHeartbeats 400000 in
theorem wrote_any {w : World} {g h cap : Nat} {s : St} (k : StAt w g h cap s) :
    Calls Try.prog 13 #[.pointer (some ⟨g, 0, none⟩)] w fun e w' => e = .returned (.int .i64 s.wrote) ∧ w = w' := by
  have k0 := k.c4
  clear k
  go_enter Try.func13, Try.ntmps13
  go_wp2
  go_ret
  exact ⟨rfl, rfl⟩

set_option maxHeartbeats 400000 in
theorem power_any {w : World} {g h cap : Nat} {s : St} (k : StAt w g h cap s) :
    Calls Try.prog 16 #[.pointer (some ⟨g, 0, none⟩)] w fun e w' => e = .returned (.bool (!s.dark)) ∧ w = w' := by
  have k0 := k.c1
  clear k
  go_enter Try.func16, Try.ntmps16
  go_wp2
  go_ret
  exact ⟨rfl, rfl⟩

set_option maxHeartbeats 400000 in
theorem armed_any {w : World} {g h cap : Nat} {s : St} (k : StAt w g h cap s) :
    Calls Try.prog 36 #[.pointer (some ⟨g, 0, none⟩)] w fun e w' => e = .returned (.tuple #[.int .i64 (if s.armed then s.left else 0), .bool s.armed]) ∧ w = w' := by
  have k0 := k.c2
  have k1 := k.c3
  clear k
  cases ha : s.armed
  all_goals
    rw [ha] at k0
    clear ha
    go_enter Try.func36, Try.ntmps36
    go_wp2
    go_ret2
    exact ⟨rfl, rfl⟩

/-- Only blocks g and h have turned (and what is new). -/
structure Only (g h : Nat) (w w' : World) : Prop where
  os : w'.os = w.os
  tape : w'.tape = w.tape
  output : w'.output = w.output
  size : w.heap.size ≤ w'.heap.size
  block : ∀ k, k < w.heap.size → k ≠ g → k ≠ h → w'.heap[k]? = w.heap[k]?

theorem Only.refl (g h : Nat) (w : World) : Only g h w w := ⟨rfl, rfl, rfl, Nat.le_refl _, fun _ _ _ _ => rfl⟩
theorem Only.trans {g h : Nat} {a b c : World} (x : Only g h a b) (y : Only g h b c) : Only g h a c :=
  ⟨y.os.trans x.os, y.tape.trans x.tape, y.output.trans x.output, Nat.le_trans x.size y.size, fun k hk h1 h2 => (y.block k (Nat.lt_of_lt_of_le hk x.size) h1 h2).trans (x.block k hk h1 h2)⟩
theorem Only.set {g h : Nat} {a w : World} (x : Only g h a w) (b i : Nat) (u : Value) (hb : b = g ∨ b = h) : Only g h a (w.setCell ⟨b, i, none⟩ u) :=
  x.trans ⟨rfl, rfl, rfl, by simp [World.setCell], fun k _ h1 h2 => Below.heap_setCell _ _ _ _ (by rcases hb with rfl | rfl <;> assumption)⟩
theorem Only.drewN {g h : Nat} {a w : World} (x : Only g h a w) (n : Nat) : Only g h a (w.drewN n) := x.trans ⟨rfl, rfl, rfl, Nat.le_refl _, fun _ _ _ _ => rfl⟩

/-- A store to the struct's own cells. -/
theorem StAt.put {w w' : World} {g h cap : Nat} {s s' : St} (k : StAt w g h cap s) (hb : s'.b = s.b) (hl0 : 0 ≤ s'.left) (hl1 : s'.left ≤ 9223372036854775807) (hw : 0 ≤ s'.wrote)
    (hg : w'.heap[g]? = some (.cells #[.slice (some ⟨h, 0, none⟩) s.b.length cap, .bool s'.dark, .bool s'.armed, .int .i64 s'.left, .int .i64 s'.wrote] 75 (0, 0)))
    (hh : w'.heap[h]? = w.heap[h]?) (hz : w.heap.size ≤ w'.heap.size) : StAt w' g h cap s' := by
  refine ⟨by rw [hb]; exact hg, k.ne, fun i hi => ?_, fun i hi => ?_, by have := k.lt; omega, by rw [hb]; exact k.le, by rw [hb]; exact k.small, hl0, hl1, hw⟩
  · rw [World.cell?_of_block (w := w) (a := ⟨h, i, none⟩) hh]
    have := k.cell i (by rw [← hb]; exact hi)
    rw [this]
    simp [hb]
  · rw [World.frozen?_of_block (w := w) (a := ⟨h, i, none⟩) hh]
    exact k.free i (by rw [← hb]; exact hi)

theorem set_heap {w : World} {g : Nat} {t : TypeId} {cs : Array Value} {m} (h : w.heap[g]? = some (.cells cs t m)) (i : Nat) (u : Value) : (w.setCell ⟨g, i, none⟩ u).heap[g]? = some (.cells (cs.setIfInBounds i u) t m) := by
  simp [World.setCell, Array.getElem?_modify, h]

theorem set_other {w : World} {g h : Nat} (i : Nat) (u : Value) (hne : h ≠ g) : (w.setCell ⟨g, i, none⟩ u).heap[h]? = w.heap[h]? := Below.heap_setCell _ _ _ _ hne

set_option maxHeartbeats 400000 in
theorem off_any {w : World} {g h cap : Nat} {s : St} (k : StAt w g h cap s) :
    Calls Try.prog 17 #[.pointer (some ⟨g, 0, none⟩)] w fun e w' => e = .returned (.tuple #[]) ∧ StAt w' g h cap { s with dark := true, armed := false, left := 0 } ∧ Only g h w w' := by
  have k1 := k.c1
  have k2 := k.c2
  have k3 := k.c3
  have f1 := k.f 1
  have f2 := k.f 2
  have f3 := k.f 3
  have K := hide k
  clear k
  go_enter Try.func17, Try.ntmps17
  go_wp2
  go_end0
  have k := K.out
  exact ⟨rfl, k.put rfl (by simp) (by simp) k.wrote0 (set_heap (set_heap (set_heap k.blk 1 _) 2 _) 3 _) (by simp only [set_other _ _ k.ne.symm]) (by simp [World.setCell]), (((Only.refl g h w).set g 1 _ (.inl rfl)).set g 2 _ (.inl rfl)).set g 3 _ (.inl rfl)⟩

set_option maxHeartbeats 400000 in
theorem on_any {w : World} {g h cap : Nat} {s : St} (k : StAt w g h cap s) :
    Calls Try.prog 18 #[.pointer (some ⟨g, 0, none⟩)] w fun e w' => e = .returned (.tuple #[]) ∧ StAt w' g h cap { s with dark := false } ∧ Only g h w w' := by
  have k1 := k.c1
  have f1 := k.f 1
  have K := hide k
  clear k
  go_enter Try.func18, Try.ntmps18
  go_wp2
  go_end0
  have k := K.out
  exact ⟨rfl, k.put rfl k.left0 k.left1 k.wrote0 (set_heap k.blk 1 _) (by simp only [set_other _ _ k.ne.symm]) (by simp [World.setCell]), (Only.refl g h w).set g 1 _ (.inl rfl)⟩

set_option maxHeartbeats 400000 in
theorem arm_any {w : World} {g h cap : Nat} {s : St} (k : StAt w g h cap s) (n : Int) (hn : n ≤ 9223372036854775807) :
    Calls Try.prog 15 #[.pointer (some ⟨g, 0, none⟩), .int .i64 n] w fun e w' => e = .returned (.tuple #[]) ∧ StAt w' g h cap { s with armed := true, left := max n 0 } ∧ Only g h w w' := by
  have k1 := k.c2
  have k2 := k.c3
  have f1 := k.f 2
  have f2 := k.f 3
  have K := hide k
  clear k
  go_enter Try.func15, Try.ntmps15
  go_wp2
  all_goals
    go_end0
    have k := K.out
    refine ⟨rfl, k.put rfl (by simp; omega) (by simp; omega) k.wrote0 ?_ (by simp only [set_other _ _ k.ne.symm]) (by simp [World.setCell]), ((Only.refl _ _ w).set _ 2 _ (.inl rfl)).set _ 3 _ (.inl rfl)⟩
    rw [set_heap (set_heap k.blk 2 _) 3 _]
    simp
    omega

set_option maxHeartbeats 400000 in
theorem read_no {w : World} {g h cap : Nat} {s : St} (k : StAt w g h cap s) (a m : Int) (hy : ¬ There s.b.length a m) :
    Calls Try.prog 12 #[.pointer (some ⟨g, 0, none⟩), .int .i64 a, .int .i64 m] w fun e w' => e = .returned (.tuple #[.string ⟨#[]⟩, .bool false]) ∧ w = w' := by
  go_enter Try.func12, Try.ntmps12
  go_wp2_with (go_at_call 32; refine (there_no k a m hy).mono ?_; rintro e w' ⟨rfl, rfl⟩)
  go_ret2
  exact ⟨rfl, rfl⟩

/-- The string of some bytes. -/
def ofL (l : List UInt8) : ByteArray := ⟨l.toArray⟩
theorem ofL_size (l : List UInt8) : (ofL l).size = l.length := by simp [ofL, ByteArray.size]
theorem ofL_data (l : List UInt8) : (ofL l).data.toList = l := by simp [ofL]
theorem ofL_of (s : ByteArray) : ofL s.data.toList = s := by simp [ofL]
theorem ofL_inj {a b : List UInt8} (h : ofL a = ofL b) : a = b := by rw [← ofL_data a, h, ofL_data]
theorem size_data (s : ByteArray) : s.data.toList.length = s.size := by rw [Array.length_toList]; rfl

def numsOf (l : List UInt8) : List Int := l.map fun b => (b.toNat : Int)
theorem strOf_nums (l : List UInt8) : strOfNums (numsOf l) = ofL l := by
  simp only [strOfNums, numsOf, ofL, List.map_map]
  congr
  have : ((fun n : Int => UInt8.ofNat n.toNat) ∘ fun b : UInt8 => (b.toNat : Int)) = id := by
    funext b; simp
  rw [this, List.map_id]

/-- 'string(b[a:a+m])': the cut, its address a letter, and what its bytes are. -/
theorem cut_lh {P : Program} (t e : TypeId) (ht : P.underlying t = some (.slice e)) (hs : (P.info? e).map (·.size) = some 1) (he : P.underlying e = some (.int .u8)) (h n c : Nat) (a m : Int) (h0 : 0 ≤ a) (h1 : 0 ≤ m) (hn : n ≤ c) (h2 : a + m ≤ n)
    (l : List UInt8) (hl : l.length = n) (w : World) (hc : ∀ i (hi : i < l.length), w.cell? ⟨h, i, none⟩ = some (.int .u8 (l[i].toNat : Int))) :
    ∃ A' : Option Addr, (∀ W : World, (Instr.slice t (.slice (some ⟨h, 0, none⟩) n c) (some (.int .i64 a)) (some (.int .i64 (a + m))) none).run P W = .ok (.slice A' m.toNat (c - a.toNat)) W) ∧
      ∀ dst, P.underlying dst = some .string → (convert t dst (.slice A' m.toNat (c - a.toNat))).run P w = .ok (.string (ofL ((l.drop a.toNat).take m.toNat))) w := by
  obtain ⟨i, hi, hsz⟩ : ∃ i, P.info? e = some i ∧ i.size = 1 := by simpa using hs
  refine ⟨some ⟨h, if c = a.toNat then 0 else a.toNat, none⟩, fun W => ?_, fun dst hd => ?_⟩
  · have hel : P.elem t = e := by simp [Program.elem, ht]
    have hu : P.underlying t = some (.slice (P.elem t)) := by rw [hel]; exact ht
    rw [run_slice_lh W t (some ⟨h, 0, none⟩) n c hu .i64 .i64 a (a + m) h0 (by omega) (by omega), hel]
    have h3 : (a + m).toNat - a.toNat = m.toNat := by omega
    simp [sizeOf, typeInfo, hi, hsz, sliced, Result.andThen, h3]
    split
    · rfl
    · unfold Addr.add; split <;> simp_all
  · have := run_convert_bytes_arg (P := P) w t e ht he h (if c = a.toNat then 0 else a.toNat) m.toNat (c - a.toNat) (numsOf ((l.drop a.toNat).take m.toNat)) (by simp [numsOf]; omega) (fun j hj => by
      have hne : c ≠ a.toNat := by omega
      rw [if_neg hne, hc (a.toNat + j) (by omega)]
      simp [numsOf, List.getD, hj, show a.toNat + j < l.length by omega]) dst hd
    rw [this, strOf_nums]

theorem Try.size5 : (Try.prog.info? 5).map (·.size) = some 1 := by kernel_rfl

set_option maxHeartbeats 400000 in
theorem read_yes {w : World} {g h cap : Nat} {s : St} (k : StAt w g h cap s) (a m : Int) (hy : There s.b.length a m) :
    Calls Try.prog 12 #[.pointer (some ⟨g, 0, none⟩), .int .i64 a, .int .i64 m] w fun e w' => e = .returned (.tuple #[.string (ofL ((s.b.drop a.toNat).take m.toNat)), .bool true]) ∧ w = w' := by
  have k0 := k.c0
  have hs := k.small
  have hc := k.le
  obtain ⟨h1, h2, h3, h4⟩ := id hy
  obtain ⟨A', hcut, hconv⟩ := cut_lh 41 5 Try.underlying41 Try.size5 Try.underlying5 h s.b.length cap a m h1 h3 hc (by omega) s.b rfl w k.cell
  have hconv := hconv 9 Try.underlying9
  have K := hide k
  have HY := hide hy
  clear k hy
  go_enter Try.func12, Try.ntmps12
  go_wp2_with (go_at_call 32; refine (there_yes K.out a m HY.out).mono ?_; rintro e w' ⟨rfl, rfl⟩)
  go_ret2
  exact ⟨rfl, rfl⟩

set_option maxHeartbeats 400000 in
theorem write_no {w : World} {g h cap : Nat} {s : St} (k : StAt w g h cap s) (a : Int) (t : ByteArray) (ht : t.size ≤ 140737488351232) (hy : ¬ There s.b.length a t.size) :
    Calls Try.prog 11 #[.pointer (some ⟨g, 0, none⟩), .int .i64 a, .string t] w fun e w' => e = .returned (.int .i64 1) ∧ w = w' := by
  go_enter Try.func11, Try.ntmps11
  go_wp2_with (go_at_call 32; refine (there_no k a _ hy).mono ?_; rintro e w' ⟨rfl, rfl⟩)
  go_ret
  exact ⟨rfl, rfl⟩

set_option maxHeartbeats 400000 in
theorem write_dark {w : World} {g h cap : Nat} {s : St} (k : StAt w g h cap s) (a : Int) (t : ByteArray) (ht : t.size ≤ 140737488351232) (hy : There s.b.length a t.size) (hd : s.dark = true) :
    Calls Try.prog 11 #[.pointer (some ⟨g, 0, none⟩), .int .i64 a, .string t] w fun e w' => e = .returned (.int .i64 12) ∧ w = w' := by
  have k1 := k.c1
  rw [hd] at k1
  have K := hide k
  have HY := hide hy
  clear k hy hd
  go_enter Try.func11, Try.ntmps11
  go_wp2_with (go_at_call 32; refine (there_yes K.out a _ HY.out).mono ?_; rintro e w' ⟨rfl, rfl⟩)
  go_ret
  exact ⟨rfl, rfl⟩

/-- 'b[a:]'. -/
theorem cut_l {P : Program} (t e : TypeId) (ht : P.underlying t = some (.slice e)) (hs : (P.info? e).map (·.size) = some 1) (h n c : Nat) (a : Int) (h0 : 0 ≤ a) (h2 : a ≤ n) :
    ∀ W : World, (Instr.slice t (.slice (some ⟨h, 0, none⟩) n c) (some (.int .i64 a)) none none).run P W = .ok (.slice (some ⟨h, if c = a.toNat then 0 else a.toNat, none⟩) (n - a.toNat) (c - a.toNat)) W := by
  obtain ⟨i, hi, hsz⟩ : ∃ i, P.info? e = some i ∧ i.size = 1 := by simpa using hs
  intro W
  have hel : P.elem t = e := by simp [Program.elem, ht]
  have hu : P.underlying t = some (.slice (P.elem t)) := by rw [hel]; exact ht
  rw [run_slice_l W t (some ⟨h, 0, none⟩) n c hu .i64 a h0 (by omega), hel]
  simp [sizeOf, typeInfo, hi, hsz, sliced, Result.andThen]
  split
  · rfl
  · unfold Addr.add; split <;> simp_all

def cellsU (l : List UInt8) : List Value := l.map fun x => Value.int .u8 (x.toNat : Int)
theorem cellsU_length (l : List UInt8) : (cellsU l).length = l.length := by simp [cellsU]

/-- 'copy(b[a:], t)' where t fits. -/
theorem copy_at {P : Program} (dT sT ty e : TypeId) (hu : P.underlying dT = some (.slice e)) (hs : (P.info? e).map (·.size) = some 1) (h n c a : Nat) (t : ByteArray) (hle : a + t.size ≤ n) (hnc : n ≤ c)
    (w : World) (hc : ∀ j, j < n → (w.cell? ⟨h, j, none⟩).isSome = true) (hf : ∀ j, j < n → w.frozen? ⟨h, j, none⟩ = false) :
    (Builtin.copy_ #[dT, sT] ty #[.slice (some ⟨h, if c = a then 0 else a, none⟩) (n - a) (c - a), .string t]).run P w = .ok (goInt t.size) (w.setCells h a (cellsU t.data.toList)) := by
  obtain ⟨i, hi, hsz⟩ : ∃ i, P.info? e = some i ∧ i.size = 1 := by simpa using hs
  have hz : ∀ w, (Go.sizeOf e).run P w = .ok 1 w := by intro w; simp [sizeOf, typeInfo, hi, hsz]
  by_cases h0 : t.size = 0
  · have hd : t.data.toList = [] := List.eq_nil_of_length_eq_zero (by rw [size_data]; exact h0)
    have := run_copy_string (P := P) w dT sT ty e h (if c = a then 0 else a) (n - a) (c - a) t hu hz (by omega) (fun j hj => by omega) (fun j hj => by omega)
    rw [this, hd]
    rfl
  · rw [if_neg (by omega)]
    exact run_copy_string (P := P) w dT sT ty e h a (n - a) (c - a) t hu hz (by omega) (fun j hj => hc _ (by omega)) (fun j hj => hf _ (by omega))

theorem step_copy_ex {P : Program} {ops : Array Oper} {o : Oper} {a : Act} {w : World} {K : Act → World → Prop} {Q : Exit → Act → World → Prop} {E : Prop} (hgd : o.guard = none) (d s : Operand) (t t' : TypeId)
    (ho : o.op = .call { callee := .builtin .copy, args := #[d, s], argTypes := #[t, t'] }) (v u : Value) (hd : a.eval d = v) (hs : a.eval s = u) {v' : Value} {R : World → Prop}
    (hr : ∃ w', (Builtin.copy_ #[t, t'] o.type #[v, u]).run P w = .ok v' w' ∧ R w') (h : ∀ w', R w' → K (a.put o.dst v') w') : if Region.wanted o (yielded ops a.tmps) = true then Oper.wp P o a w K Q else E := by
  have hw : Region.wanted o (yielded ops a.tmps) = true := by simp [Region.wanted, hgd]
  obtain ⟨w', hr, hR⟩ := hr
  rw [if_pos hw]
  unfold Oper.wp execOp
  simp only [ho, resolve, invoke, builtin, Sem.run_bind, Sem.run_pure, Result.andThen_ok, List.map_toArray, List.map_cons, List.map_nil, hd, hs, hr]
  exact h _ hR

theorem Only.cells {g h : Nat} {a w : World} (x : Only g h a w) (o : Nat) (vs : List Value) : Only g h a (w.setCells h o vs) := by
  induction vs generalizing o w with
  | nil => exact x
  | cons v vs ih => exact ih (x.set h o v (.inr rfl)) (o + 1)

theorem heap_setCells_other {h g : Nat} (hne : g ≠ h) : ∀ (vs : List Value) (o : Nat) (w : World), (w.setCells h o vs).heap[g]? = w.heap[g]?
  | [], _, _ => rfl
  | v :: vs, o, w => (heap_setCells_other hne vs (o + 1) _).trans (Below.heap_setCell _ _ _ _ hne)
theorem size_setCells {h : Nat} : ∀ (vs : List Value) (o : Nat) (w : World), (w.setCells h o vs).heap.size = w.heap.size
  | [], _, _ => rfl
  | v :: vs, o, w => (size_setCells vs (o + 1) _).trans (by simp [World.setCell])

/-- The bytes after a copy. -/
def St.paste (s : St) (a : Nat) (l : List UInt8) : St := { s with b := s.b.take a ++ l ++ s.b.drop (a + l.length) }

theorem StAt.paste {w : World} {g h cap : Nat} {s : St} (k : StAt w g h cap s) (a : Nat) (l : List UInt8) (hl : a + l.length ≤ s.b.length) {W : World} (hW : W.heap = w.heap) : StAt (W.setCells h a (cellsU l)) g h cap (s.paste a l) := by
  have hlen : (s.paste a l).b.length = s.b.length := by simp [St.paste]; omega
  have hcW : ∀ x, W.cell? x = w.cell? x := fun x => World.cell?_of_block (by rw [hW])
  refine ⟨?_, k.ne, fun i hi => ?_, fun i hi => ?_, ?_, by rw [hlen]; exact k.le, by rw [hlen]; exact k.small, k.left0, k.left1, k.wrote0⟩
  · rw [heap_setCells_other k.ne, hW, k.blk, hlen]
    rfl
  · have hi' : i < s.b.length := by omega
    by_cases h1 : i < a
    · rw [World.cell?_setCells_out _ _ _ _ _ (fun _ _ => Or.inl h1), hcW, k.cell i hi']
      congr 4
      simp only [St.paste]
      rw [List.getElem_append_left (by simp; omega), List.getElem_append_left (by simp; omega)]
      simp
    · by_cases h2 : i < a + l.length
      · have := World.cell?_setCells_in h (cellsU l) a W (fun j hj => by rw [cellsU_length] at hj; rw [hcW, k.cell _ (by omega)]; rfl) (i - a) (by rw [cellsU_length]; omega)
        rw [show a + (i - a) = i by omega] at this
        rw [this]
        congr 1
        simp only [cellsU, List.getElem_map, St.paste]
        congr 3
        rw [List.getElem_append_left (by simp; omega), List.getElem_append_right (by simp; omega)]
        congr 1
        simp
        omega
      · rw [World.cell?_setCells_out _ _ _ _ _ (fun _ _ => Or.inr (by rw [cellsU_length]; simp; omega)), hcW, k.cell i hi']
        congr 4
        simp only [St.paste]
        rw [List.getElem_append_right (by simp; omega), List.getElem_drop]
        congr 1
        simp
        omega
  · rw [World.frozen?_setCells, World.frozen?_of_block (w := w) (by rw [hW])]
    exact k.free i (by omega)
  · rw [size_setCells, hW]
    exact k.lt

/-- 'b[a:]' and the copy of t into it. -/
theorem StAt.copy {w : World} {g h cap : Nat} {s : St} (k : StAt w g h cap s) (a : Int) (t : ByteArray) (hy : There s.b.length a t.size) :
    ∃ A' : Option Addr, (∀ W : World, (Instr.slice 41 (.slice (some ⟨h, 0, none⟩) s.b.length cap) (some (.int .i64 a)) none none).run Try.prog W = .ok (.slice A' (s.b.length - a.toNat) (cap - a.toNat)) W) ∧
      ∀ W : World, Only g h w W → W.heap = w.heap → ∃ w', (Builtin.copy_ #[41, 9] 3 #[.slice A' (s.b.length - a.toNat) (cap - a.toNat), .string t]).run Try.prog W = .ok (goInt t.size) w' ∧ StAt w' g h cap (s.paste a.toNat t.data.toList) ∧ Only g h w w' := by
  obtain ⟨h1, h2, h3, h4⟩ := hy
  refine ⟨_, cut_l 41 5 Try.underlying41 Try.size5 h s.b.length cap a h1 h2, fun W hO hW => ⟨_, copy_at 41 9 3 5 Try.underlying41 Try.size5 h s.b.length cap a.toNat t (by omega) k.le W (fun j hj => ?_) (fun j hj => ?_), k.paste _ _ (by rw [size_data]; omega) hW, hO.cells _ _⟩⟩
  · rw [World.cell?_of_block (w := w) (by rw [hW]), k.cell j hj]; rfl
  · rw [World.frozen?_of_block (w := w) (by rw [hW])]; exact k.free j hj


set_option maxHeartbeats 400000 in
theorem write_free {w : World} {g h cap : Nat} {s : St} (k : StAt w g h cap s) (a : Int) (t : ByteArray) (ht : t.size ≤ 140737488351232) (hy : There s.b.length a t.size) (hd : s.dark = false) (hA : s.armed = false) (hw : s.wrote + t.size ≤ 9223372036854775807) :
    Calls Try.prog 11 #[.pointer (some ⟨g, 0, none⟩), .int .i64 a, .string t] w fun e w' => e = .returned (.int .i64 0) ∧
      StAt w' g h cap { s.paste a.toNat t.data.toList with wrote := s.wrote + t.size } ∧ Only g h w w' := by
  have k0 := k.c0
  have k1 := k.c1
  have k2 := k.c2
  have k4 := k.c4
  have hw0 := k.wrote0
  rw [hd] at k1
  rw [hA] at k2
  have K := hide k
  have HY := hide hy
  obtain ⟨A', hcut, hcopy⟩ := k.copy a t hy
  have HC := hide hcopy
  clear hcopy
  clear k hy hd hA
  go_enter Try.func11, Try.ntmps11
  go_wp2_with (go_at_call 32; refine (there_yes K.out a _ HY.out).mono ?_; rintro e w' ⟨rfl, rfl⟩)
  go_region_law (refine step_copy_ex rfl (.tmp 48) (.tmp 51) 41 9 rfl _ _ (by simp [Act.eval, Act.put]) (by simp [Act.eval, Act.put]) (HC.out _ ((Only.refl g h w).drewN 1) rfl) ?_; rintro w2 ⟨k2, o2⟩; have c4 := k2.c4; have f4 := k2.f 4; have K2 := hide k2; clear k2)
  simp only [St.paste] at c4
  go_wp2
  go_ret
  have k := K2.out
  refine ⟨rfl, k.put rfl k.left0 k.left1 (by simp; omega) (set_heap k.blk 4 _) (by simp only [set_other _ _ k.ne.symm]) (by simp [World.setCell]), o2.set g 4 _ (.inl rfl)⟩

set_option maxHeartbeats 400000 in
theorem write_armed {w : World} {g h cap : Nat} {s : St} (k : StAt w g h cap s) (a : Int) (t : ByteArray) (ht : t.size ≤ 140737488351232) (hy : There s.b.length a t.size) (hd : s.dark = false) (hA : s.armed = true) (hw : s.wrote + t.size ≤ 9223372036854775807) (hle : (t.size : Int) ≤ s.left) :
    Calls Try.prog 11 #[.pointer (some ⟨g, 0, none⟩), .int .i64 a, .string t] w fun e w' => e = .returned (.int .i64 0) ∧
      StAt w' g h cap { s.paste a.toNat t.data.toList with wrote := s.wrote + t.size, left := s.left - t.size } ∧ Only g h w w' := by
  have k0 := k.c0
  have k1 := k.c1
  have k2 := k.c2
  have k3 := k.c3
  have k4 := k.c4
  have f3 := k.f 3
  have hw0 := k.wrote0
  have hl0 := k.left0
  have hl1 := k.left1
  rw [hd] at k1
  rw [hA] at k2
  have kl : StAt (w.setCell ⟨g, 3, none⟩ (.int .i64 (s.left - t.size))) g h cap { s with left := s.left - t.size } :=
    k.put rfl (by simp; omega) (by simp; omega) k.wrote0 (set_heap k.blk 3 _) (by simp only [set_other _ _ k.ne.symm]) (by simp [World.setCell])
  obtain ⟨A', hcut, hcopy⟩ := kl.copy a t hy
  have HC := hide hcopy
  have ho : Only g h w (w.setCell ⟨g, 3, none⟩ (.int .i64 (s.left - t.size))) := (Only.refl g h w).set g 3 _ (.inl rfl)
  clear hcopy
  have K := hide k
  have HY := hide hy
  clear k hy hd hA kl
  go_enter Try.func11, Try.ntmps11
  go_wp2_with (go_at_call 32; refine (there_yes K.out a _ HY.out).mono ?_; rintro e w' ⟨rfl, rfl⟩)
  go_region_law (refine step_copy_ex rfl (.tmp 48) (.tmp 51) 41 9 rfl _ _ (by simp [Act.eval, Act.put]) (by simp [Act.eval, Act.put]) (HC.out _ ((Only.refl g h _).drewN 1) rfl) ?_; rintro w2 ⟨k2, o2⟩; have c4 := k2.c4; have f4 := k2.f 4; have K2 := hide k2; clear k2)
  simp only [St.paste] at c4
  go_wp2
  go_ret
  have k := K2.out
  exact ⟨rfl, k.put rfl k.left0 k.left1 (by simp; omega) (set_heap k.blk 4 _) (by simp only [set_other _ _ k.ne.symm]) (by simp [World.setCell]), (ho.trans o2).set g 4 _ (.inl rfl)⟩

set_option maxHeartbeats 400000 in
theorem write_torn {w : World} {g h cap : Nat} {s : St} (k : StAt w g h cap s) (a : Int) (t : ByteArray) (ht : t.size ≤ 140737488351232) (hy : There s.b.length a t.size) (hd : s.dark = false) (hA : s.armed = true) (hw : s.wrote + t.size ≤ 9223372036854775807) (hle : s.left < (t.size : Int)) :
    Calls Try.prog 11 #[.pointer (some ⟨g, 0, none⟩), .int .i64 a, .string t] w fun e w' => e = .returned (.int .i64 12) ∧
      StAt w' g h cap { s.paste a.toNat (t.data.toList.take s.left.toNat) with wrote := s.wrote + s.left, dark := true, armed := false, left := 0 } ∧ Only g h w w' := by
  have k0 := k.c0
  have k1 := k.c1
  have k2 := k.c2
  have k3 := k.c3
  have k4 := k.c4
  have f3 := k.f 3
  have hw0 := k.wrote0
  have hl0 := k.left0
  have hl1 := k.left1
  have hle2 : s.left ≤ (t.size : Int) := by omega
  rw [hd] at k1
  rw [hA] at k2
  have kl : StAt (w.setCell ⟨g, 3, none⟩ (.int .i64 0)) g h cap { s with left := 0 } :=
    k.put rfl (by simp) (by simp) k.wrote0 (set_heap k.blk 3 _) (by simp only [set_other _ _ k.ne.symm]) (by simp [World.setCell])
  have hsz : (t.extract 0 s.left.toNat).size = s.left.toNat := by simp; omega
  have hdat : (t.extract 0 s.left.toNat).data.toList = t.data.toList.take s.left.toNat := by simp
  obtain ⟨A', hcut, hcopy⟩ := kl.copy a (t.extract 0 s.left.toNat) (by obtain ⟨h1, h2, h3, h4⟩ := hy; rw [hsz]; exact ⟨h1, h2, by omega, by simp at *; omega⟩)
  rw [hsz, hdat] at hcopy
  have HC := hide hcopy
  have ho : Only g h w (w.setCell ⟨g, 3, none⟩ (.int .i64 0)) := (Only.refl g h w).set g 3 _ (.inl rfl)
  clear hcopy hsz hdat
  have K := hide k
  have HY := hide hy
  clear k hy hd hA kl
  go_enter Try.func11, Try.ntmps11
  go_wp2_with (go_at_call 32; refine (there_yes K.out a _ HY.out).mono ?_; rintro e w' ⟨rfl, rfl⟩)
  go_region_law (refine step_copy_ex rfl (.tmp 48) (.tmp 51) 41 9 rfl _ _ (by simp [Act.eval, Act.put]) (by simp [Act.eval, Act.put]) (HC.out _ ((Only.refl g h _).drewN 1) rfl) ?_; rintro w2 ⟨k2, o2⟩; have c4 := k2.c4; have f4 := k2.f 4; have K2 := hide k2; clear k2)
  simp only [St.paste] at c4
  have K3 : Hid (StAt (w2.setCell ⟨g, 4, none⟩ (.int .i64 (s.wrote + s.left))) g h cap { s.paste a.toNat (t.data.toList.take s.left.toNat) with wrote := s.wrote + s.left, left := 0 }) :=
    K2.out.put rfl (by simp) (by simp) (by simp; omega) (set_heap K2.out.blk 4 _) (by simp only [set_other _ _ K2.out.ne.symm]) (by simp [World.setCell])
  go_wp2_with (go_at_call 17; refine (off_any (k := K3.out)).mono ?_; rintro e w3 ⟨rfl, k3, o3⟩)
  go_ret
  exact ⟨rfl, k3, (ho.trans (o2.set g 4 _ (.inl rfl))).trans o3⟩

instance (n : Nat) (a m : Int) : Decidable (There n a m) := by unfold There; infer_instance

/-- What Write does: the error, and the store. -/
def St.write (s : St) (a : Int) (t : List UInt8) : Int × St :=
  if There s.b.length a t.length then
    if s.dark then (12, s)
    else if s.armed then
      if (t.length : Int) ≤ s.left then (0, { s.paste a.toNat t with wrote := s.wrote + t.length, left := s.left - t.length })
      else (12, { s.paste a.toNat (t.take s.left.toNat) with wrote := s.wrote + s.left, dark := true, armed := false, left := 0 })
    else (0, { s.paste a.toNat t with wrote := s.wrote + t.length })
  else (1, s)

theorem write_any {w : World} {g h cap : Nat} {s : St} (k : StAt w g h cap s) (a : Int) (t : ByteArray) (ht : t.size ≤ 140737488351232) (hw : s.wrote + t.size ≤ 9223372036854775807) :
    Calls Try.prog 11 #[.pointer (some ⟨g, 0, none⟩), .int .i64 a, .string t] w fun e w' => e = .returned (.int .i64 (s.write a t.data.toList).1) ∧
      StAt w' g h cap (s.write a t.data.toList).2 ∧ Only g h w w' := by
  unfold St.write
  rw [size_data]
  split
  · rename_i hy
    cases hd : s.dark
    · cases hA : s.armed
      · simpa [hA] using write_free k a t ht hy hd hA hw
      · by_cases hle : (t.size : Int) ≤ s.left
        · simpa [hle, hA] using write_armed k a t ht hy hd hA hw hle
        · simpa [hle] using write_torn k a t ht hy hd hA hw (by omega)
    · simp only [if_true]
      exact (write_dark k a t ht hy hd).mono fun e w' ⟨he, hw⟩ => by subst hw; exact ⟨he, k, Only.refl _ _ _⟩
  · rename_i hy
    exact (write_no k a t ht hy).mono fun e w' ⟨he, hw⟩ => by subst hw; exact ⟨he, k, Only.refl _ _ _⟩

theorem StAt.keep {w w' : World} {g h cap g' h' : Nat} {s : St} (k : StAt w g h cap s) (o : Only g' h' w w') (h1 : g ≠ g') (h2 : g ≠ h') (h3 : h ≠ g') (h4 : h ≠ h') : StAt w' g h cap s := by
  have hg : g < w.heap.size := (Array.getElem?_eq_some_iff.1 k.blk).1
  exact k.put rfl k.left0 k.left1 k.wrote0 ((o.block g hg h1 h2).trans k.blk) (o.block h k.lt h3 h4) o.size
theorem StAt.below {w w' : World} {g h cap : Nat} {s : St} (k : StAt w g h cap s) (o : Below w.heap.size w w') : StAt w' g h cap s := by
  have hg : g < w.heap.size := (Array.getElem?_eq_some_iff.1 k.blk).1
  exact k.put rfl k.left0 k.left1 k.wrote0 ((o.block g hg).trans k.blk) (o.block h k.lt) o.size
theorem Only.below {B g h : Nat} {a w w' : World} (b : Below B a w) (o : Only g h w w') (hg : B ≤ g) (hh : B ≤ h) (hB : B ≤ w.heap.size) : Below B a w' :=
  b.trans ⟨o.os, o.tape, o.output, o.size, fun k hk => o.block k (by omega) (by omega) (by omega)⟩

/-- A new store. -/
def Made (w : World) (s : St) (e : Ending) (w' : World) : Prop :=
  ∃ g h cap, e = .returned (.pointer (some ⟨g, 0, none⟩)) ∧ StAt w' g h cap s ∧ w.heap.size ≤ g ∧ w.heap.size ≤ h ∧ Below w.heap.size w w'

theorem info5 : (Try.prog.info? 5).map (fun i => (i.zero, i.size, i.bytes)) = some (some (.int .u8 0), 1, 1) := by kernel_rfl

theorem max_i (ats : Array TypeId) (ty : TypeId) (k k' : IntKind) (x y : Int) : Builtin.max_ ats ty #[.int k x, .int k' y] = pure (.int k (max x y)) := by
  have e : (if x < y then y else x) = max x y := by split <;> omega
  simp only [Builtin.max_, List.foldlM_cons, List.foldlM_nil, Builtin.max2, gt_iff_lt, e]
  rfl
theorem min_i (ats : Array TypeId) (ty : TypeId) (k k' : IntKind) (x y : Int) : Builtin.min_ ats ty #[.int k x, .int k' y] = pure (.int k (min x y)) := by
  have e : (if y < x then y else x) = min x y := by split <;> omega
  simp only [Builtin.min_, List.foldlM_cons, List.foldlM_nil, Builtin.min2, e]
  rfl

/-- 'make([]byte, n)'. -/
theorem make_u8 {P : Program} (t e : TypeId) (ht : P.underlying t = some (.slice e)) (hinfo : (P.info? e).map (fun i => (i.zero, i.size, i.bytes)) = some (some (.int .u8 0), 1, 1)) (n : Nat) (hn : n ≤ 1000) :
    ∀ w : World, (Instr.makeSlice t (.int .i64 (n : Int)) (.int .i64 (n : Int))).run P w = .ok (.slice (some ⟨w.heap.size, 0, none⟩) n n) (w.alloc (.cells (madeCells #[.int .u8 0] n) e)) := by
  intro w
  obtain ⟨i, hi, hz, hs, hb⟩ := info_parts hinfo
  have hr := run_make (P := P) w t e i _ ht hi hz .i64 .i64 n n (by omega) (by omega) (by rw [hb]; omega) (by omega)
  rw [hs] at hr
  have hz : (Value.int IntKind.u8 0).cells = #[.int .u8 0] := rfl
  simpa [hz] using hr
theorem madeCells_get (v : Value) (n i : Nat) (h : i < n) : (madeCells #[v] n)[i]? = some v := by
  simp [madeCells, h, Nat.mod_one]

theorem old_alloc {w : World} {g : Nat} {o : Obj} (h : w.heap[g]? = some o) (o' : Obj) : (w.alloc o').heap[g]? = some o := (Below.heap_alloc w o' g (Array.getElem?_eq_some_iff.1 h).1).trans h
theorem new_alloc {w : World} {g : Nat} (o : Obj) (_ : True) (h : g = w.heap.size) : (w.alloc o).heap[g]? = some o := by subst h; exact heap_alloc_new w o

section
attribute [local go_sem high] max_i min_i
set_option maxHeartbeats 400000 in
theorem new_any (w : World) (n : Int) :
    Calls Try.prog 10 #[.int .i64 n] w (Made w { b := List.replicate (min (max n 0) 1000).toNat 0, dark := false, armed := false, left := 0, wrote := 0 }) := by
  obtain ⟨m, hm, hle⟩ : ∃ m : Nat, min (max n 0) 1000 = (m : Int) ∧ m ≤ 1000 := ⟨(min (max n 0) 1000).toNat, by omega, by omega⟩
  have hmk := make_u8 41 5 Try.underlying41 info5 m hle
  have HM := hide hm
  go_enter Try.func10, Try.ntmps10
  go_wp2
  go_ret
  clear hmk hm
  have e1 : (min (max n 0) 1000).toNat = m := by rw [HM.out]; rfl
  have hb0 := old_alloc (heap_alloc_new w (.cells (madeCells #[.int .u8 0] m) 5)) (.cells #[.slice (some ⟨w.heap.size, 0, none⟩) m m, .bool false, .bool false, .int .i64 0, .int .i64 0] 75)
  refine ⟨w.heap.size + 1, w.heap.size, m, rfl, ⟨?_, by omega, fun i hi => ?_, fun i hi => ?_, by simp; omega, by simp [e1], by simp [e1]; omega, by simp, by simp, by simp⟩, by omega, by omega, ?_⟩
  · simp only [List.length_replicate, e1]
    exact new_alloc _ trivial (by simp)
  · simp [e1] at hi
    rw [blk_cell hb0, madeCells_get _ _ _ (by omega)]
    simp
  · exact blk_frozen hb0 i
  · exact ((Below.refl _ _).alloc (Nat.le_refl _) _).alloc (by simp) _
end

set_option maxHeartbeats 400000 in
theorem of_any (w : World) (s : ByteArray) (hs : s.size ≤ 1000) :
    Calls Try.prog 14 #[.string s] w (Made w { b := s.data.toList, dark := false, armed := false, left := 0, wrote := 0 }) := by
  have hcv := fun W : World => Lib.run_convert_string_bytes (P := Try.prog) W 9 41 5 s Try.underlying9 Try.underlying41 Try.underlying5
  go_enter Try.func14, Try.ntmps14
  go_wp2
  go_ret
  clear hcv
  have hb0 := old_alloc (Lib.bytesWorld_at_new w 5 s) (.cells #[.slice (some ⟨w.heap.size, 0, none⟩) s.size (grownCap w s.size 0 5), .bool false, .bool false, .int .i64 0, .int .i64 0] 75)
  have hz := Lib.bytesWorld_size w 5 s
  have hcap : s.size ≤ grownCap w s.size 0 5 := grownCap_ge _ _ _ _
  have hcs : s.size ≤ (Lib.bytesCells w 5 s).size := by simp [Lib.bytesCells]
  refine ⟨(Lib.bytesWorld w 5 s).heap.size, w.heap.size, grownCap w s.size 0 5, rfl, ⟨?_, by omega, fun i hi => ?_, fun i hi => ?_, by simp; omega, by simp only [size_data]; exact hcap, by simp only [size_data]; exact hs, by simp, by simp, by simp⟩, by omega, by omega, ?_⟩
  · simp only [size_data]
    exact new_alloc _ trivial rfl
  · simp only [size_data] at hi
    rw [blk_cell hb0]
    simp [Lib.bytesCells, Array.getElem?_append, hi]
  · simp only [size_data] at hi
    simp [World.frozen?, hb0]
    omega
  · have hb : Below w.heap.size w (Lib.bytesWorld w 5 s) := ⟨rfl, rfl, rfl, by omega, fun k hk => Lib.bytesWorld_at_old w 5 s k hk⟩
    exact hb.alloc (by omega) _
end Go.Proofs.Ytoekemceminciaa
