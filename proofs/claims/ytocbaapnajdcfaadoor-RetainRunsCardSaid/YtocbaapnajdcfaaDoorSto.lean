/- The walks of package store: what each method does to the store's two blocks. -/
import Derived.Test.YtocbaapnajdcfaaDoorBl
namespace Go.Proofs.YtocbaapnajdcfaaDoor
open Go.RowKit
set_option linter.unusedVariables false
set_option linter.unusedSimpArgs false

structure St where
  b : List UInt8
  dark : Bool
  armed : Bool
  left : Int
  wrote : Int

/-- A store in memory: its struct in block g, its bytes in block h. -/
structure StAt (w : World) (g h cap : Nat) (s : St) : Prop where
  blk : w.heap[g]? = some (.cells #[.slice (some ⟨h, 0, none⟩) s.b.length cap, .bool s.dark, .bool s.armed, .int .i64 s.left, .int .i64 s.wrote] 54 (0, 0))
  ne : g ≠ h
  cell : ∀ i (hi : i < s.b.length), w.cell? ⟨h, i, none⟩ = some (.int .u8 (s.b[i].toNat : Int))
  free : ∀ i, i < s.b.length → w.frozen? ⟨h, i, none⟩ = false
  lt : h < w.heap.size
  le : s.b.length ≤ cap
  small : s.b.length ≤ 1000
  left0 : 0 ≤ s.left
  left1 : s.left ≤ 9223372036854775807
  wrote0 : 0 ≤ s.wrote

section
variable {w : World} {g h cap : Nat} {s : St}
theorem StAt.c0 (k : StAt w g h cap s) : w.cell? ⟨g, 0, none⟩ = some (.slice (some ⟨h, 0, none⟩) s.b.length cap) := (blk_cell k.blk 0).trans rfl
theorem StAt.c1 (k : StAt w g h cap s) : w.cell? ⟨g, 1, none⟩ = some (.bool s.dark) := (blk_cell k.blk 1).trans rfl
theorem StAt.c2 (k : StAt w g h cap s) : w.cell? ⟨g, 2, none⟩ = some (.bool s.armed) := (blk_cell k.blk 2).trans rfl
theorem StAt.c3 (k : StAt w g h cap s) : w.cell? ⟨g, 3, none⟩ = some (.int .i64 s.left) := (blk_cell k.blk 3).trans rfl
theorem StAt.c4 (k : StAt w g h cap s) : w.cell? ⟨g, 4, none⟩ = some (.int .i64 s.wrote) := (blk_cell k.blk 4).trans rfl
theorem StAt.f (k : StAt w g h cap s) (i : Nat) : w.frozen? ⟨g, i, none⟩ = false := blk_frozen k.blk i
end

set_option maxHeartbeats 400000 in
theorem len_any {w : World} {g h cap : Nat} {s : St} (k : StAt w g h cap s) :
    Calls Tryd.prog 27 #[.pointer (some ⟨g, 0, none⟩)] w fun e w' => e = .returned (.int .i64 (s.b.length : Int)) ∧ w = w' := by
  have k0 := k.c0
  clear k
  go_enter Tryd.func27, Tryd.ntmps27
  go_wp2
  go_ret
  exact ⟨rfl, rfl⟩


def There (n : Nat) (a m : Int) : Prop := 0 ≤ a ∧ a ≤ n ∧ 0 ≤ m ∧ m ≤ n - a

set_option maxHeartbeats 400000 in
theorem there_yes {w : World} {g h cap : Nat} {s : St} (k : StAt w g h cap s) (a m : Int) (hy : There s.b.length a m) :
    Calls Tryd.prog 37 #[.pointer (some ⟨g, 0, none⟩), .int .i64 a, .int .i64 m] w fun e w' => e = .returned (.bool true) ∧ w = w' := by
  obtain ⟨h1, h2, h3, h4⟩ := hy
  have hs := k.small
  go_enter Tryd.func37, Tryd.ntmps37
  go_wp2_with (go_at_call 27; refine (len_any k).mono ?_; rintro e w' ⟨rfl, rfl⟩)
  go_ret
  exact ⟨rfl, rfl⟩

set_option maxHeartbeats 400000 in
theorem there_no {w : World} {g h cap : Nat} {s : St} (k : StAt w g h cap s) (a m : Int) (hy : ¬ There s.b.length a m) :
    Calls Tryd.prog 37 #[.pointer (some ⟨g, 0, none⟩), .int .i64 a, .int .i64 m] w fun e w' => e = .returned (.bool false) ∧ w = w' := by
  have hs := k.small
  unfold There at hy
  have HY := hide hy
  clear hy
  go_enter Tryd.func37, Tryd.ntmps37
  go_wp2_with (go_at_call 27; refine (len_any k).mono ?_; rintro e w' ⟨rfl, rfl⟩)
  all_goals (go_ret; refine ⟨?_, rfl⟩)
  all_goals (have hy := HY.out; first | (simp; omega) | rfl | skip)

set_option maxHeartbeats 400000 in
theorem power_any {w : World} {g h cap : Nat} {s : St} (k : StAt w g h cap s) :
    Calls Tryd.prog 29 #[.pointer (some ⟨g, 0, none⟩)] w fun e w' => e = .returned (.bool (!s.dark)) ∧ w = w' := by
  have k0 := k.c1
  clear k
  go_enter Tryd.func29, Tryd.ntmps29
  go_wp2
  go_ret
  exact ⟨rfl, rfl⟩

set_option maxHeartbeats 400000 in
theorem armed_any {w : World} {g h cap : Nat} {s : St} (k : StAt w g h cap s) :
    Calls Tryd.prog 28 #[.pointer (some ⟨g, 0, none⟩)] w fun e w' => e = .returned (.tuple #[.int .i64 (if s.armed then s.left else 0), .bool s.armed]) ∧ w = w' := by
  have k0 := k.c2
  have k1 := k.c3
  clear k
  cases ha : s.armed
  all_goals
    rw [ha] at k0
    clear ha
    go_enter Tryd.func28, Tryd.ntmps28
    go_wp2
    go_ret2
    exact ⟨rfl, rfl⟩

/-- A store to the struct's own cells. -/
theorem StAt.put {w w' : World} {g h cap : Nat} {s s' : St} (k : StAt w g h cap s) (hb : s'.b = s.b) (hl0 : 0 ≤ s'.left) (hl1 : s'.left ≤ 9223372036854775807) (hw : 0 ≤ s'.wrote)
    (hg : w'.heap[g]? = some (.cells #[.slice (some ⟨h, 0, none⟩) s.b.length cap, .bool s'.dark, .bool s'.armed, .int .i64 s'.left, .int .i64 s'.wrote] 54 (0, 0)))
    (hh : w'.heap[h]? = w.heap[h]?) (hz : w.heap.size ≤ w'.heap.size) : StAt w' g h cap s' := by
  refine ⟨by rw [hb]; exact hg, k.ne, fun i hi => ?_, fun i hi => ?_, by have := k.lt; omega, by rw [hb]; exact k.le, by rw [hb]; exact k.small, hl0, hl1, hw⟩
  · rw [World.cell?_of_block (w := w) (a := ⟨h, i, none⟩) hh]
    have := k.cell i (by rw [← hb]; exact hi)
    rw [this]
    simp [hb]
  · rw [World.frozen?_of_block (w := w) (a := ⟨h, i, none⟩) hh]
    exact k.free i (by rw [← hb]; exact hi)

set_option maxHeartbeats 400000 in
theorem off_any {w : World} {g h cap : Nat} {s : St} (k : StAt w g h cap s) :
    Calls Tryd.prog 17 #[.pointer (some ⟨g, 0, none⟩)] w fun e w' => e = .returned (.tuple #[]) ∧ StAt w' g h cap { s with dark := true, armed := false, left := 0 } ∧ Only g h w w' := by
  have k1 := k.c1
  have k2 := k.c2
  have k3 := k.c3
  have f1 := k.f 1
  have f2 := k.f 2
  have f3 := k.f 3
  have K := hide k
  clear k
  go_enter Tryd.func17, Tryd.ntmps17
  go_wp2
  go_end0
  have k := K.out
  exact ⟨rfl, k.put rfl (by simp) (by simp) k.wrote0 (set_heap (set_heap (set_heap k.blk 1 _) 2 _) 3 _) (by simp only [set_other _ _ k.ne.symm]) (by simp [World.setCell]), (((Only.refl g h w).set g 1 _ (.inl rfl)).set g 2 _ (.inl rfl)).set g 3 _ (.inl rfl)⟩

set_option maxHeartbeats 400000 in
theorem on_any {w : World} {g h cap : Nat} {s : St} (k : StAt w g h cap s) :
    Calls Tryd.prog 19 #[.pointer (some ⟨g, 0, none⟩)] w fun e w' => e = .returned (.tuple #[]) ∧ StAt w' g h cap { s with dark := false } ∧ Only g h w w' := by
  have k1 := k.c1
  have f1 := k.f 1
  have K := hide k
  clear k
  go_enter Tryd.func19, Tryd.ntmps19
  go_wp2
  go_end0
  have k := K.out
  exact ⟨rfl, k.put rfl k.left0 k.left1 k.wrote0 (set_heap k.blk 1 _) (by simp only [set_other _ _ k.ne.symm]) (by simp [World.setCell]), (Only.refl g h w).set g 1 _ (.inl rfl)⟩

set_option maxHeartbeats 400000 in
theorem arm_any {w : World} {g h cap : Nat} {s : St} (k : StAt w g h cap s) (n : Int) (hn : n ≤ 9223372036854775807) :
    Calls Tryd.prog 16 #[.pointer (some ⟨g, 0, none⟩), .int .i64 n] w fun e w' => e = .returned (.tuple #[]) ∧ StAt w' g h cap { s with armed := true, left := max n 0 } ∧ Only g h w w' := by
  have k1 := k.c2
  have k2 := k.c3
  have f1 := k.f 2
  have f2 := k.f 3
  have K := hide k
  clear k
  go_enter Tryd.func16, Tryd.ntmps16
  go_wp2
  all_goals
    go_end0
    have k := K.out
    refine ⟨rfl, k.put rfl (by simp; omega) (by simp; omega) k.wrote0 ?_ (by simp only [set_other _ _ k.ne.symm]) (by simp [World.setCell]), ((Only.refl _ _ w).set _ 2 _ (.inl rfl)).set _ 3 _ (.inl rfl)⟩
    rw [set_heap (set_heap k.blk 2 _) 3 _]
    simp
    omega

set_option maxHeartbeats 400000 in
theorem read_no {w : World} {g h cap : Nat} {s : St} (k : StAt w g h cap s) (a m : Int) (hy : ¬ There s.b.length a m) :
    Calls Tryd.prog 26 #[.pointer (some ⟨g, 0, none⟩), .int .i64 a, .int .i64 m] w fun e w' => e = .returned (.tuple #[.string ⟨#[]⟩, .bool false]) ∧ w = w' := by
  go_enter Tryd.func26, Tryd.ntmps26
  go_wp2_with (go_at_call 37; refine (there_no k a m hy).mono ?_; rintro e w' ⟨rfl, rfl⟩)
  go_ret2
  exact ⟨rfl, rfl⟩

theorem sizeU8 : (Tryd.prog.info? 5).map (·.size) = some 1 := by kernel_rfl

set_option maxHeartbeats 400000 in
theorem read_yes {w : World} {g h cap : Nat} {s : St} (k : StAt w g h cap s) (a m : Int) (hy : There s.b.length a m) :
    Calls Tryd.prog 26 #[.pointer (some ⟨g, 0, none⟩), .int .i64 a, .int .i64 m] w fun e w' => e = .returned (.tuple #[.string (ofL ((s.b.drop a.toNat).take m.toNat)), .bool true]) ∧ w = w' := by
  have k0 := k.c0
  have hs := k.small
  have hc := k.le
  obtain ⟨h1, h2, h3, h4⟩ := id hy
  obtain ⟨A', hcut, hconv⟩ := cut_lh 28 5 Tryd.underlying28 sizeU8 Tryd.underlying5 h s.b.length cap a m h1 h3 hc (by omega) s.b rfl w k.cell
  have hconv := hconv 9 Tryd.underlying9
  have K := hide k
  have HY := hide hy
  clear k hy
  go_enter Tryd.func26, Tryd.ntmps26
  go_wp2_with (go_at_call 37; refine (there_yes K.out a m HY.out).mono ?_; rintro e w' ⟨rfl, rfl⟩)
  go_ret2
  exact ⟨rfl, rfl⟩

set_option maxHeartbeats 400000 in
theorem write_no {w : World} {g h cap : Nat} {s : St} (k : StAt w g h cap s) (a : Int) (t : ByteArray) (ht : t.size ≤ 140737488351232) (hy : ¬ There s.b.length a t.size) :
    Calls Tryd.prog 35 #[.pointer (some ⟨g, 0, none⟩), .int .i64 a, .string t] w fun e w' => e = .returned (.int .i64 1) ∧ w = w' := by
  go_enter Tryd.func35, Tryd.ntmps35
  go_wp2_with (go_at_call 37; refine (there_no k a _ hy).mono ?_; rintro e w' ⟨rfl, rfl⟩)
  go_ret
  exact ⟨rfl, rfl⟩

set_option maxHeartbeats 400000 in
theorem write_dark {w : World} {g h cap : Nat} {s : St} (k : StAt w g h cap s) (a : Int) (t : ByteArray) (ht : t.size ≤ 140737488351232) (hy : There s.b.length a t.size) (hd : s.dark = true) :
    Calls Tryd.prog 35 #[.pointer (some ⟨g, 0, none⟩), .int .i64 a, .string t] w fun e w' => e = .returned (.int .i64 12) ∧ w = w' := by
  have k1 := k.c1
  rw [hd] at k1
  have K := hide k
  have HY := hide hy
  clear k hy hd
  go_enter Tryd.func35, Tryd.ntmps35
  go_wp2_with (go_at_call 37; refine (there_yes K.out a _ HY.out).mono ?_; rintro e w' ⟨rfl, rfl⟩)
  go_ret
  exact ⟨rfl, rfl⟩

/-- The bytes after a copy. -/
def St.paste (s : St) (a : Nat) (l : List UInt8) : St := { s with b := s.b.take a ++ l ++ s.b.drop (a + l.length) }

theorem StAt.paste {w : World} {g h cap : Nat} {s : St} (k : StAt w g h cap s) (a : Nat) (l : List UInt8) (hl : a + l.length ≤ s.b.length) {W : World} (hW : W.heap = w.heap) : StAt (W.setCells h a (cellsU l)) g h cap (s.paste a l) := by
  have hlen : (s.paste a l).b.length = s.b.length := by simp [St.paste]; omega
  have hcW : ∀ x, W.cell? x = w.cell? x := fun x => World.cell?_of_block (by rw [hW])
  refine ⟨?_, k.ne, fun i hi => ?_, fun i hi => ?_, ?_, by rw [hlen]; exact k.le, by rw [hlen]; exact k.small, k.left0, k.left1, k.wrote0⟩
  · rw [heap_setCells_other k.ne, hW, k.blk, hlen]
    rfl
  · have hi' : i < s.b.length := by omega
    by_cases h1 : i < a
    · rw [World.cell?_setCells_out _ _ _ _ _ (fun _ _ => Or.inl h1), hcW, k.cell i hi']
      congr 4
      simp only [St.paste]
      rw [List.getElem_append_left (by simp; omega), List.getElem_append_left (by simp; omega)]
      simp
    · by_cases h2 : i < a + l.length
      · have := World.cell?_setCells_in h (cellsU l) a W (fun j hj => by rw [cellsU_length] at hj; rw [hcW, k.cell _ (by omega)]; rfl) (i - a) (by rw [cellsU_length]; omega)
        rw [show a + (i - a) = i by omega] at this
        rw [this]
        congr 1
        simp only [cellsU, List.getElem_map, St.paste]
        congr 3
        rw [List.getElem_append_left (by simp; omega), List.getElem_append_right (by simp; omega)]
        congr 1
        simp
        omega
      · rw [World.cell?_setCells_out _ _ _ _ _ (fun _ _ => Or.inr (by rw [cellsU_length]; simp; omega)), hcW, k.cell i hi']
        congr 4
        simp only [St.paste]
        rw [List.getElem_append_right (by simp; omega), List.getElem_drop]
        congr 1
        simp
        omega
  · rw [World.frozen?_setCells, World.frozen?_of_block (w := w) (by rw [hW])]
    exact k.free i (by omega)
  · rw [size_setCells, hW]
    exact k.lt

/-- 'b[a:]' and the copy of t into it. -/
theorem StAt.copy {w : World} {g h cap : Nat} {s : St} (k : StAt w g h cap s) (a : Int) (t : ByteArray) (hy : There s.b.length a t.size) :
    ∃ A' : Option Addr, (∀ W : World, (Instr.slice 28 (.slice (some ⟨h, 0, none⟩) s.b.length cap) (some (.int .i64 a)) none none).run Tryd.prog W = .ok (.slice A' (s.b.length - a.toNat) (cap - a.toNat)) W) ∧
      ∀ W : World, Only g h w W → W.heap = w.heap → ∃ w', (Builtin.copy_ #[28, 9] 3 #[.slice A' (s.b.length - a.toNat) (cap - a.toNat), .string t]).run Tryd.prog W = .ok (goInt t.size) w' ∧ StAt w' g h cap (s.paste a.toNat t.data.toList) ∧ Only g h w w' := by
  obtain ⟨h1, h2, h3, h4⟩ := hy
  refine ⟨_, cut_l 28 5 Tryd.underlying28 sizeU8 h s.b.length cap a h1 h2, fun W hO hW => ⟨_, copy_at 28 9 3 5 Tryd.underlying28 sizeU8 h s.b.length cap a.toNat t (by omega) k.le W (fun j hj => ?_) (fun j hj => ?_), k.paste _ _ (by rw [size_data]; omega) hW, hO.cells _ _⟩⟩
  · rw [World.cell?_of_block (w := w) (by rw [hW]), k.cell j hj]; rfl
  · rw [World.frozen?_of_block (w := w) (by rw [hW])]; exact k.free j hj


set_option maxHeartbeats 400000 in
theorem write_free {w : World} {g h cap : Nat} {s : St} (k : StAt w g h cap s) (a : Int) (t : ByteArray) (ht : t.size ≤ 140737488351232) (hy : There s.b.length a t.size) (hd : s.dark = false) (hA : s.armed = false) (hw : s.wrote + t.size ≤ 9223372036854775807) :
    Calls Tryd.prog 35 #[.pointer (some ⟨g, 0, none⟩), .int .i64 a, .string t] w fun e w' => e = .returned (.int .i64 0) ∧
      StAt w' g h cap { s.paste a.toNat t.data.toList with wrote := s.wrote + t.size } ∧ Only g h w w' := by
  have k0 := k.c0
  have k1 := k.c1
  have k2 := k.c2
  have k4 := k.c4
  have hw0 := k.wrote0
  rw [hd] at k1
  rw [hA] at k2
  have K := hide k
  have HY := hide hy
  obtain ⟨A', hcut, hcopy⟩ := k.copy a t hy
  have HC := hide hcopy
  clear hcopy
  clear k hy hd hA
  go_enter Tryd.func35, Tryd.ntmps35
  go_wp2_with (go_at_call 37; refine (there_yes K.out a _ HY.out).mono ?_; rintro e w' ⟨rfl, rfl⟩)
  go_region_law (refine step_copy_ex rfl (.tmp 48) (.tmp 51) 28 9 rfl _ _ (by simp [Act.eval, Act.put]) (by simp [Act.eval, Act.put]) (HC.out _ ((Only.refl g h w).drewN 1) rfl) ?_; rintro w2 ⟨k2, o2⟩; have c4 := k2.c4; have f4 := k2.f 4; have K2 := hide k2; clear k2)
  simp only [St.paste] at c4
  go_wp2
  go_ret
  have k := K2.out
  refine ⟨rfl, k.put rfl k.left0 k.left1 (by simp; omega) (set_heap k.blk 4 _) (by simp only [set_other _ _ k.ne.symm]) (by simp [World.setCell]), o2.set g 4 _ (.inl rfl)⟩

set_option maxHeartbeats 400000 in
theorem write_armed {w : World} {g h cap : Nat} {s : St} (k : StAt w g h cap s) (a : Int) (t : ByteArray) (ht : t.size ≤ 140737488351232) (hy : There s.b.length a t.size) (hd : s.dark = false) (hA : s.armed = true) (hw : s.wrote + t.size ≤ 9223372036854775807) (hle : (t.size : Int) ≤ s.left) :
    Calls Tryd.prog 35 #[.pointer (some ⟨g, 0, none⟩), .int .i64 a, .string t] w fun e w' => e = .returned (.int .i64 0) ∧
      StAt w' g h cap { s.paste a.toNat t.data.toList with wrote := s.wrote + t.size, left := s.left - t.size } ∧ Only g h w w' := by
  have k0 := k.c0
  have k1 := k.c1
  have k2 := k.c2
  have k3 := k.c3
  have k4 := k.c4
  have f3 := k.f 3
  have hw0 := k.wrote0
  have hl0 := k.left0
  have hl1 := k.left1
  rw [hd] at k1
  rw [hA] at k2
  have kl : StAt (w.setCell ⟨g, 3, none⟩ (.int .i64 (s.left - t.size))) g h cap { s with left := s.left - t.size } :=
    k.put rfl (by simp; omega) (by simp; omega) k.wrote0 (set_heap k.blk 3 _) (by simp only [set_other _ _ k.ne.symm]) (by simp [World.setCell])
  obtain ⟨A', hcut, hcopy⟩ := kl.copy a t hy
  have HC := hide hcopy
  have ho : Only g h w (w.setCell ⟨g, 3, none⟩ (.int .i64 (s.left - t.size))) := (Only.refl g h w).set g 3 _ (.inl rfl)
  clear hcopy
  have K := hide k
  have HY := hide hy
  clear k hy hd hA kl
  go_enter Tryd.func35, Tryd.ntmps35
  go_wp2_with (go_at_call 37; refine (there_yes K.out a _ HY.out).mono ?_; rintro e w' ⟨rfl, rfl⟩)
  go_region_law (refine step_copy_ex rfl (.tmp 48) (.tmp 51) 28 9 rfl _ _ (by simp [Act.eval, Act.put]) (by simp [Act.eval, Act.put]) (HC.out _ ((Only.refl g h _).drewN 1) rfl) ?_; rintro w2 ⟨k2, o2⟩; have c4 := k2.c4; have f4 := k2.f 4; have K2 := hide k2; clear k2)
  simp only [St.paste] at c4
  go_wp2
  go_ret
  have k := K2.out
  exact ⟨rfl, k.put rfl k.left0 k.left1 (by simp; omega) (set_heap k.blk 4 _) (by simp only [set_other _ _ k.ne.symm]) (by simp [World.setCell]), (ho.trans o2).set g 4 _ (.inl rfl)⟩

set_option maxHeartbeats 400000 in
theorem write_torn {w : World} {g h cap : Nat} {s : St} (k : StAt w g h cap s) (a : Int) (t : ByteArray) (ht : t.size ≤ 140737488351232) (hy : There s.b.length a t.size) (hd : s.dark = false) (hA : s.armed = true) (hw : s.wrote + t.size ≤ 9223372036854775807) (hle : s.left < (t.size : Int)) :
    Calls Tryd.prog 35 #[.pointer (some ⟨g, 0, none⟩), .int .i64 a, .string t] w fun e w' => e = .returned (.int .i64 12) ∧
      StAt w' g h cap { s.paste a.toNat (t.data.toList.take s.left.toNat) with wrote := s.wrote + s.left, dark := true, armed := false, left := 0 } ∧ Only g h w w' := by
  have k0 := k.c0
  have k1 := k.c1
  have k2 := k.c2
  have k3 := k.c3
  have k4 := k.c4
  have f3 := k.f 3
  have hw0 := k.wrote0
  have hl0 := k.left0
  have hl1 := k.left1
  have hle2 : s.left ≤ (t.size : Int) := by omega
  rw [hd] at k1
  rw [hA] at k2
  have kl : StAt (w.setCell ⟨g, 3, none⟩ (.int .i64 0)) g h cap { s with left := 0 } :=
    k.put rfl (by simp) (by simp) k.wrote0 (set_heap k.blk 3 _) (by simp only [set_other _ _ k.ne.symm]) (by simp [World.setCell])
  have hsz : (t.extract 0 s.left.toNat).size = s.left.toNat := by simp; omega
  have hdat : (t.extract 0 s.left.toNat).data.toList = t.data.toList.take s.left.toNat := by simp
  obtain ⟨A', hcut, hcopy⟩ := kl.copy a (t.extract 0 s.left.toNat) (by obtain ⟨h1, h2, h3, h4⟩ := hy; rw [hsz]; exact ⟨h1, h2, by omega, by simp at *; omega⟩)
  rw [hsz, hdat] at hcopy
  have HC := hide hcopy
  have ho : Only g h w (w.setCell ⟨g, 3, none⟩ (.int .i64 0)) := (Only.refl g h w).set g 3 _ (.inl rfl)
  clear hcopy hsz hdat
  have K := hide k
  have HY := hide hy
  clear k hy hd hA kl
  go_enter Tryd.func35, Tryd.ntmps35
  go_wp2_with (go_at_call 37; refine (there_yes K.out a _ HY.out).mono ?_; rintro e w' ⟨rfl, rfl⟩)
  go_region_law (refine step_copy_ex rfl (.tmp 48) (.tmp 51) 28 9 rfl _ _ (by simp [Act.eval, Act.put]) (by simp [Act.eval, Act.put]) (HC.out _ ((Only.refl g h _).drewN 1) rfl) ?_; rintro w2 ⟨k2, o2⟩; have c4 := k2.c4; have f4 := k2.f 4; have K2 := hide k2; clear k2)
  simp only [St.paste] at c4
  have K3 : Hid (StAt (w2.setCell ⟨g, 4, none⟩ (.int .i64 (s.wrote + s.left))) g h cap { s.paste a.toNat (t.data.toList.take s.left.toNat) with wrote := s.wrote + s.left, left := 0 }) :=
    K2.out.put rfl (by simp) (by simp) (by simp; omega) (set_heap K2.out.blk 4 _) (by simp only [set_other _ _ K2.out.ne.symm]) (by simp [World.setCell])
  go_wp2_with (go_at_call 17; refine (off_any (k := K3.out)).mono ?_; rintro e w3 ⟨rfl, k3, o3⟩)
  go_ret
  exact ⟨rfl, k3, (ho.trans (o2.set g 4 _ (.inl rfl))).trans o3⟩

instance (n : Nat) (a m : Int) : Decidable (There n a m) := by unfold There; infer_instance

/-- What Write does: the error, and the store. -/
def St.write (s : St) (a : Int) (t : List UInt8) : Int × St :=
  if There s.b.length a t.length then
    if s.dark then (12, s)
    else if s.armed then
      if (t.length : Int) ≤ s.left then (0, { s.paste a.toNat t with wrote := s.wrote + t.length, left := s.left - t.length })
      else (12, { s.paste a.toNat (t.take s.left.toNat) with wrote := s.wrote + s.left, dark := true, armed := false, left := 0 })
    else (0, { s.paste a.toNat t with wrote := s.wrote + t.length })
  else (1, s)

theorem write_any {w : World} {g h cap : Nat} {s : St} (k : StAt w g h cap s) (a : Int) (t : ByteArray) (ht : t.size ≤ 140737488351232) (hw : s.wrote + t.size ≤ 9223372036854775807) :
    Calls Tryd.prog 35 #[.pointer (some ⟨g, 0, none⟩), .int .i64 a, .string t] w fun e w' => e = .returned (.int .i64 (s.write a t.data.toList).1) ∧
      StAt w' g h cap (s.write a t.data.toList).2 ∧ Only g h w w' := by
  unfold St.write
  rw [size_data]
  split
  · rename_i hy
    cases hd : s.dark
    · cases hA : s.armed
      · simpa [hA] using write_free k a t ht hy hd hA hw
      · by_cases hle : (t.size : Int) ≤ s.left
        · simpa [hle, hA] using write_armed k a t ht hy hd hA hw hle
        · simpa [hle] using write_torn k a t ht hy hd hA hw (by omega)
    · simp only [if_true]
      exact (write_dark k a t ht hy hd).mono fun e w' ⟨he, hw⟩ => by subst hw; exact ⟨he, k, Only.refl _ _ _⟩
  · rename_i hy
    exact (write_no k a t ht hy).mono fun e w' ⟨he, hw⟩ => by subst hw; exact ⟨he, k, Only.refl _ _ _⟩

theorem StAt.keep {w w' : World} {g h cap g' h' : Nat} {s : St} (k : StAt w g h cap s) (o : Only g' h' w w') (h1 : g ≠ g') (h2 : g ≠ h') (h3 : h ≠ g') (h4 : h ≠ h') : StAt w' g h cap s := by
  have hg : g < w.heap.size := (Array.getElem?_eq_some_iff.1 k.blk).1
  exact k.put rfl k.left0 k.left1 k.wrote0 ((o.block g hg h1 h2).trans k.blk) (o.block h k.lt h3 h4) o.size
theorem StAt.below {w w' : World} {g h cap : Nat} {s : St} (k : StAt w g h cap s) (o : Below w.heap.size w w') : StAt w' g h cap s := by
  have hg : g < w.heap.size := (Array.getElem?_eq_some_iff.1 k.blk).1
  exact k.put rfl k.left0 k.left1 k.wrote0 ((o.block g hg).trans k.blk) (o.block h k.lt) o.size
/-- A new store. -/
def Made (w : World) (s : St) (e : Ending) (w' : World) : Prop :=
  ∃ g h cap, e = .returned (.pointer (some ⟨g, 0, none⟩)) ∧ StAt w' g h cap s ∧ w.heap.size ≤ g ∧ w.heap.size ≤ h ∧ Below w.heap.size w w'

theorem infoU8 : (Tryd.prog.info? 5).map (fun i => (i.zero, i.size, i.bytes)) = some (some (.int .u8 0), 1, 1) := by kernel_rfl

section
attribute [local go_sem high] max_i min_i
set_option maxHeartbeats 400000 in
theorem new_any (w : World) (n : Int) :
    Calls Tryd.prog 14 #[.int .i64 n] w (Made w { b := List.replicate (min (max n 0) 1000).toNat 0, dark := false, armed := false, left := 0, wrote := 0 }) := by
  obtain ⟨m, hm, hle⟩ : ∃ m : Nat, min (max n 0) 1000 = (m : Int) ∧ m ≤ 1000 := ⟨(min (max n 0) 1000).toNat, by omega, by omega⟩
  have hmk := make_u8 28 5 Tryd.underlying28 infoU8 m hle
  have HM := hide hm
  go_enter Tryd.func14, Tryd.ntmps14
  go_wp2
  go_ret
  clear hmk hm
  have e1 : (min (max n 0) 1000).toNat = m := by rw [HM.out]; rfl
  have hb0 := old_alloc (heap_alloc_new w (.cells (madeCells #[.int .u8 0] m) 5)) (.cells #[.slice (some ⟨w.heap.size, 0, none⟩) m m, .bool false, .bool false, .int .i64 0, .int .i64 0] 54)
  refine ⟨w.heap.size + 1, w.heap.size, m, rfl, ⟨?_, by omega, fun i hi => ?_, fun i hi => ?_, by simp; omega, by simp [e1], by simp [e1]; omega, by simp, by simp, by simp⟩, by omega, by omega, ?_⟩
  · simp only [List.length_replicate, e1]
    exact new_alloc _ trivial (by simp)
  · simp [e1] at hi
    rw [blk_cell hb0, madeCells_get _ _ _ (by omega)]
    simp
  · exact blk_frozen hb0 i
  · exact ((Below.refl _ _).alloc (Nat.le_refl _) _).alloc (by simp) _
end

set_option maxHeartbeats 400000 in
theorem of_any (w : World) (s : ByteArray) (hs : s.size ≤ 1000) :
    Calls Tryd.prog 9 #[.string s] w (Made w { b := s.data.toList, dark := false, armed := false, left := 0, wrote := 0 }) := by
  have hcv := fun W : World => Lib.run_convert_string_bytes (P := Tryd.prog) W 9 28 5 s Tryd.underlying9 Tryd.underlying28 Tryd.underlying5
  go_enter Tryd.func9, Tryd.ntmps9
  go_wp2
  go_ret
  clear hcv
  have hb0 := old_alloc (Lib.bytesWorld_at_new w 5 s) (.cells #[.slice (some ⟨w.heap.size, 0, none⟩) s.size (grownCap w s.size 0 5), .bool false, .bool false, .int .i64 0, .int .i64 0] 54)
  have hz := Lib.bytesWorld_size w 5 s
  have hcap : s.size ≤ grownCap w s.size 0 5 := grownCap_ge _ _ _ _
  have hcs : s.size ≤ (Lib.bytesCells w 5 s).size := by simp [Lib.bytesCells]
  refine ⟨(Lib.bytesWorld w 5 s).heap.size, w.heap.size, grownCap w s.size 0 5, rfl, ⟨?_, by omega, fun i hi => ?_, fun i hi => ?_, by simp; omega, by simp only [size_data]; exact hcap, by simp only [size_data]; exact hs, by simp, by simp, by simp⟩, by omega, by omega, ?_⟩
  · simp only [size_data]
    exact new_alloc _ trivial rfl
  · simp only [size_data] at hi
    rw [blk_cell hb0]
    simp [Lib.bytesCells, Array.getElem?_append, hi]
  · simp only [size_data] at hi
    simp [World.frozen?, hb0]
    omega
  · have hb : Below w.heap.size w (Lib.bytesWorld w 5 s) := ⟨rfl, rfl, rfl, by omega, fun k hk => Lib.bytesWorld_at_old w 5 s k hk⟩
    exact hb.alloc (by omega) _
theorem write_to {w : World} {g h cap : Nat} {s : St} (k : StAt w g h cap s) (a : Int) (t : ByteArray) {e' : Int} {s' : St} (hr : s.write a t.data.toList = (e', s')) (ht : t.size ≤ 140737488351232) (hw : s.wrote + t.size ≤ 9223372036854775807) :
    Calls Tryd.prog 35 #[.pointer (some ⟨g, 0, none⟩), .int .i64 a, .string t] w fun e w' => e = .returned (.int .i64 e') ∧ StAt w' g h cap s' ∧ Only g h w w' := by
  have := write_any k a t ht hw
  rw [hr] at this
  exact this

theorem read_to {w : World} {g h cap : Nat} {s : St} (k : StAt w g h cap s) (a m : Int) (hy : There s.b.length a m) {l : List UInt8} (hl : (s.b.drop a.toNat).take m.toNat = l) :
    Calls Tryd.prog 26 #[.pointer (some ⟨g, 0, none⟩), .int .i64 a, .int .i64 m] w fun e w' => e = .returned (.tuple #[.string (ofL l), .bool true]) ∧ w = w' := by
  have := read_yes k a m hy
  rw [hl] at this
  exact this

theorem new_to (w : World) (n : Int) (m : Nat) (hm : (min (max n 0) 1000).toNat = m) :
    Calls Tryd.prog 14 #[.int .i64 n] w (Made w { b := List.replicate m 0, dark := false, armed := false, left := 0, wrote := 0 }) := by
  have := new_any w n
  rw [hm] at this
  exact this

theorem write_plain {b : List UInt8} {n : Int} (a : Int) (l : List UInt8) (h : There b.length a l.length) : (St.mk b false false 0 n).write a l = (0, St.mk (pasteL b a.toNat l) false false 0 (n + l.length)) := by
  simp [St.write, h, St.paste, pasteL]

theorem StAt.drewN {w : World} {g h cap : Nat} {s : St} (k : StAt w g h cap s) (n : Nat) : StAt (w.drewN n) g h cap s :=
  k.below ⟨rfl, rfl, rfl, Nat.le_refl _, fun _ _ => rfl⟩

theorem write_full {b : List UInt8} {n left : Int} (a : Int) (l : List UInt8) (h : There b.length a l.length) (hl : (l.length : Int) ≤ left) : (St.mk b false true left n).write a l = (0, St.mk (pasteL b a.toNat l) false true (left - l.length) (n + l.length)) := by
  simp [St.write, h, hl, St.paste, pasteL]
theorem write_half {b : List UInt8} {n left : Int} (a : Int) (l : List UInt8) (h : There b.length a l.length) (hl : left < (l.length : Int)) : (St.mk b false true left n).write a l = (12, St.mk (pasteL b a.toNat (l.take left.toNat)) true false 0 (n + left)) := by
  have : ¬ (l.length : Int) ≤ left := by omega
  simp [St.write, h, this, St.paste, pasteL]
theorem write_off {b : List UInt8} {n left : Int} {ar : Bool} (a : Int) (l : List UInt8) (h : There b.length a l.length) : (St.mk b true ar left n).write a l = (12, St.mk b true ar left n) := by
  simp [St.write, h]

end Go.Proofs.YtocbaapnajdcfaaDoor
