/- Layer 3: epoch.Compare, Max, Mint, Hop, the reference's Number, Mint. -/
import Derived.Test.YtjmdkhjfjlodmaaDoorBl
namespace Go.Proofs.YtjmdkhjfjlodmaaDoor
open Go.RowKit
set_option linter.unusedVariables false
set_option linter.unusedSimpArgs false

theorem nan8_any (a : Int) (w : World) : Calls Tryd.prog 29 #[.int .u8 a] w fun e w' => e = .returned (.bool false) ∧ w = w' := by
  go_enter Tryd.func29, Tryd.ntmps29
  go_wp2
  go_ret
  exact ⟨by simp, rfl⟩
set_option maxHeartbeats 400000 in
theorem c8_any (a b : Int) (w : World) : Calls Tryd.prog 23 #[.int .u8 a, .int .u8 b] w fun e w' => e = .returned (.int .i64 (cmpI a b)) ∧ w = w' := by
  unfold cmpI
  by_cases h1 : a < b
  · rw [if_pos h1]
    go_enter Tryd.func23, Tryd.ntmps23
    go_wp2_with (go_at_call 29; refine (nan8_any _ _).mono ?_; rintro e w' ⟨rfl, rfl⟩)
    go_ret
    exact ⟨rfl, rfl⟩
  · rw [if_neg h1]
    by_cases h2 : b < a
    · rw [if_pos h2]
      go_enter Tryd.func23, Tryd.ntmps23
      go_wp2_with (go_at_call 29; refine (nan8_any _ _).mono ?_; rintro e w' ⟨rfl, rfl⟩)
      go_ret
      exact ⟨rfl, rfl⟩
    · rw [if_neg h2]
      go_enter Tryd.func23, Tryd.ntmps23
      go_wp2_with (go_at_call 29; refine (nan8_any _ _).mono ?_; rintro e w' ⟨rfl, rfl⟩)
      go_ret
      exact ⟨rfl, rfl⟩

set_option maxHeartbeats 800000 in
theorem or_three (h : Nat) (a b c : Int) (w : World) (hc0 : w.cell? ⟨h, 0, none⟩ = some (.int .i64 a)) (hc1 : w.cell? ⟨h, 1, none⟩ = some (.int .i64 b)) (hc2 : w.cell? ⟨h, 2, none⟩ = some (.int .i64 c)) :
    Calls Tryd.prog 21 #[.slice (some ⟨h, 0, none⟩) 3 3] w fun e w' => e = .returned (.int .i64 (orI (orI a b) c)) ∧ w = w' := by
  unfold orI
  by_cases ha : a = 0
  · subst ha
    rw [if_pos rfl]
    by_cases hb : b = 0
    · subst hb
      rw [if_pos rfl]
      by_cases hc : c = 0
      · subst hc
        go_enter Tryd.func21, Tryd.ntmps21
        go_wp2
        go_rounds 4
        go_ret
        exact ⟨rfl, rfl⟩
      · have hc2 : (c != 0) = true := by simpa using hc
        go_enter Tryd.func21, Tryd.ntmps21
        go_wp2
        go_rounds 4
        go_ret
        exact ⟨rfl, rfl⟩
    · rw [if_neg hb]
      have hb2 : (b != 0) = true := by simpa using hb
      go_enter Tryd.func21, Tryd.ntmps21
      go_wp2
      go_rounds 4
      go_ret
      exact ⟨rfl, rfl⟩
  · rw [if_neg ha, if_neg ha]
    have ha2 : (a != 0) = true := by simpa using ha
    go_enter Tryd.func21, Tryd.ntmps21
    go_wp2
    go_rounds 4
    go_ret
    exact ⟨rfl, rfl⟩

/-- An epoch. -/
structure Ep where
  c : Nat
  a : Nat
  i : Nat
structure Ep.ok (e : Ep) : Prop where
  c : e.c < 65536
  a : e.a < 256
  i : e.i < 65536
def Ep.v (e : Ep) : Array Value := #[.int .u16 e.c, .int .u8 e.a, .int .u16 e.i]
def Ep.zero : Ep := ⟨0, 0, 0⟩
/-- An epoch as one number. -/
def Ep.num (e : Ep) : Nat := (e.c * 256 + e.a) * 65536 + e.i
def Ep.cmp (x y : Ep) : Int := orI (orI (cmpI x.c y.c) (cmpI x.a y.a)) (cmpI x.i y.i)

theorem Ep.cmp_pos {x y : Ep} (hx : x.ok) (hy : y.ok) : 0 < x.cmp y ↔ y.num < x.num := by
  have := hx.c; have := hx.a; have := hx.i; have := hy.c; have := hy.a; have := hy.i
  unfold Ep.cmp orI cmpI Ep.num
  (repeat' split) <;> constructor <;> intro h <;> omega
theorem Ep.cmp_neg {x y : Ep} (hx : x.ok) (hy : y.ok) : x.cmp y < 0 ↔ x.num < y.num := by
  have := hx.c; have := hx.a; have := hx.i; have := hy.c; have := hy.a; have := hy.i
  unfold Ep.cmp orI cmpI Ep.num
  (repeat' split) <;> constructor <;> intro h <;> omega
theorem cmpI_three (a b : Int) : cmpI a b = -1 ∨ cmpI a b = 0 ∨ cmpI a b = 1 := by
  unfold cmpI; split
  · exact .inl rfl
  · split
    · exact .inr (.inr rfl)
    · exact .inr (.inl rfl)
theorem Ep.cmp_three (x y : Ep) : x.cmp y = -1 ∨ x.cmp y = 0 ∨ x.cmp y = 1 := by
  unfold Ep.cmp orI
  (repeat' split) <;> exact cmpI_three _ _

set_option maxHeartbeats 1000000 in
theorem ecmp_any (x y : Ep) (w : World) :
    Calls Tryd.prog 9 #[.agg x.v, .agg y.v] w fun e w' => e = .returned (.int .i64 (x.cmp y)) ∧ Below w.heap.size w w' := by
  obtain ⟨a, b, c⟩ := x
  obtain ⟨d, f, g⟩ := y
  unfold Ep.v Ep.cmp
  simp only
  have bw : Below w.heap.size w ((w.alloc (.cells #[.int .u16 a, .int .u8 b, .int .u16 c] 24)).alloc (.cells #[.int .u16 d, .int .u8 f, .int .u16 g] 24)) := ((Below.refl _ _).alloc (Nat.le_refl _) _).alloc (by simp) _
  have hb0 := old_alloc (heap_alloc_new w (.cells #[.int .u16 a, .int .u8 b, .int .u16 c] 24)) (.cells #[.int .u16 d, .int .u8 f, .int .u16 g] 24)
  have hb1 := heap_alloc2_new w (.cells #[.int .u16 a, .int .u8 b, .int .u16 c] 24) (.cells #[.int .u16 d, .int .u8 f, .int .u16 g] 24)
  have BW := hide bw; have HB0 := hide hb0; have HB1 := hide hb1
  clear bw hb0 hb1
  go_enter Tryd.func9, Tryd.ntmps9
  go_wp2_with fail
  have bw := BW.out; have hb0 := HB0.out; have hb1 := HB1.out
  clear BW HB0 HB1
  generalize (w.alloc (.cells #[.int .u16 a, .int .u8 b, .int .u16 c] 24)).alloc (.cells #[.int .u16 d, .int .u8 f, .int .u16 g] 24) = w1 at bw hb0 hb1 ⊢
  have c0 : w1.cell? ⟨w.heap.size, 0, none⟩ = some (.int .u16 a) := blk_cell hb0 0
  have c1 : w1.cell? ⟨w.heap.size, 1, none⟩ = some (.int .u8 b) := blk_cell hb0 1
  have c2 : w1.cell? ⟨w.heap.size, 2, none⟩ = some (.int .u16 c) := blk_cell hb0 2
  have d0 : w1.cell? ⟨w.heap.size + 1, 0, none⟩ = some (.int .u16 d) := blk_cell hb1 0
  have d1 : w1.cell? ⟨w.heap.size + 1, 1, none⟩ = some (.int .u8 f) := blk_cell hb1 1
  have d2 : w1.cell? ⟨w.heap.size + 1, 2, none⟩ = some (.int .u16 g) := blk_cell hb1 2
  have BW := hide bw
  clear bw hb0 hb1
  go_region_held3 (fun w' => w'.cell? ⟨w.heap.size, 0, none⟩ = some (.int .u16 a) ∧ w'.cell? ⟨w.heap.size, 1, none⟩ = some (.int .u8 b) ∧ w'.cell? ⟨w.heap.size, 2, none⟩ = some (.int .u16 c) ∧ w'.cell? ⟨w.heap.size + 1, 0, none⟩ = some (.int .u16 d) ∧ w'.cell? ⟨w.heap.size + 1, 1, none⟩ = some (.int .u8 f) ∧ w'.cell? ⟨w.heap.size + 1, 2, none⟩ = some (.int .u16 g)) (first | exact ⟨c0, c1, c2, d0, d1, d2⟩ | go_keep)
    (first
      | (go_at_call 22; refine (c16_any _ _ _).mono ?_; rintro e w' ⟨rfl, rfl⟩)
      | (go_at_call 23; refine (c8_any b f _).mono ?_; rintro e w' ⟨rfl, rfl⟩)
      | (go_at_call 21; refine (or_three _ (cmpI a d) (cmpI b f) (cmpI c g) _ ?_ ?_ ?_).mono ?_; simp; simp; simp; rintro e w' ⟨rfl, rfl⟩))
  go_wp2
  go_ret
  exact ⟨rfl, (BW.out.alloc BW.out.size _).drew⟩
end Go.Proofs.YtjmdkhjfjlodmaaDoor
