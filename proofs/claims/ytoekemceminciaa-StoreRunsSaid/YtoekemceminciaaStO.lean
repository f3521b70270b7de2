/- One act of StoreRuns: the store and the reference's store go the same way. -/
import Derived.Test.YtoekemceminciaaStW
import Derived.Deep.RegionHeld3
namespace Go.Proofs.Ytoekemceminciaa
open Go.RowKit
set_option linter.unusedVariables false
set_option linter.unusedSimpArgs false
attribute [local go_sem] ofL_toList

theorem rwrite_any {w : World} {g h cap : Nat} {s : St} (k : RAt w g h cap s) (a : Int) (t : ByteArray) (hl : 0 ≤ s.left) (hw0 : 0 ≤ s.wrote) (hw : s.wrote + t.size ≤ 9223372036854775807) (hl1 : s.left ≤ 9223372036854775807) :
    Calls Try.prog 33 #[.pointer (some ⟨g, 0, none⟩), .int .i64 a, .string t] w fun e w' => e = .returned (.int .i64 (s.write a t.data.toList).1) ∧ RAt w' g h cap (s.write a t.data.toList).2 ∧ Only g h w w' := by
  by_cases hy : There s.b.length a t.size
  · cases hd : s.dark
    · exact rwrite_on k a t hy hd hl hw0 hw hl1
    · have e : s.write a t.data.toList = (12, s) := by unfold St.write; rw [size_data, if_pos hy, hd]; rfl
      rw [e]
      exact (rwrite_dark k a t hy hd).mono fun e w' ⟨he, hw⟩ => by subst hw; exact ⟨he, k, Only.refl _ _ _⟩
  · have e : s.write a t.data.toList = (1, s) := by unfold St.write; rw [size_data, if_neg hy]
    rw [e]
    exact (rwrite_no k a t hy).mono fun e w' ⟨he, hw⟩ => by subst hw; exact ⟨he, k, Only.refl _ _ _⟩

/-- The two stores, in four blocks from B on. -/
structure Both (B : Nat) (w : World) (g h cap g' h' cap' : Nat) (s : St) : Prop where
  d : StAt w g h cap s
  r : RAt w g' h' cap' s
  hg : B ≤ g
  hh : B ≤ h
  hg' : B ≤ g'
  hh' : B ≤ h'
  ne : g ≠ g' ∧ g ≠ h' ∧ h ≠ g' ∧ h ≠ h'
  lt : B ≤ w.heap.size

theorem Both.below {B : Nat} {w w' : World} {g h cap g' h' cap' : Nat} {s : St} (k : Both B w g h cap g' h' cap' s) (b : Below w.heap.size w w') : Both B w' g h cap g' h' cap' s :=
  ⟨k.d.below b, k.r.below b, k.hg, k.hh, k.hg', k.hh', k.ne, Nat.le_trans k.lt b.size⟩

theorem Both.drew {B : Nat} {w : World} {g h cap g' h' cap' : Nat} {s : St} (k : Both B w g h cap g' h' cap' s) : Both B w.drew g h cap g' h' cap' s := k.below ⟨rfl, rfl, rfl, Nat.le_refl _, fun _ _ => rfl⟩

/-- What an act makes of a store. -/
def St.act (s : St) (x a n : Int) (t : ByteArray) : St :=
  if x % 5 = 0 then (s.write a t.data.toList).2
  else if x % 5 = 1 then s
  else if x % 5 = 2 then { s with armed := true, left := max n 0 }
  else if x % 5 = 3 then { s with dark := true, armed := false, left := 0 }
  else { s with dark := false }

theorem box4 {w : World} (x a n : Int) (t : ByteArray) : ∀ i, (w.alloc (.cells #[.int .u8 x, .int .i64 a, .int .i64 n, .string t] 39)).cell? ⟨w.heap.size, i, none⟩ = #[Value.int .u8 x, .int .i64 a, .int .i64 n, .string t][i]? := fun i => blk_cell (heap_alloc_new w _) i

theorem Only.cell {g h : Nat} {w w' : World} (o : Only g h w w') {p : Addr} {v : Value} (hc : w.cell? p = some v) (h1 : p.block ≠ g) (h2 : p.block ≠ h) : w'.cell? p = some v := by
  rw [World.cell?_of_block (w := w) (o.block p.block (World.block_lt_of_cell? _ _ hc) h1 h2), hc]

/-- The world behind the box of an act. -/
structure Boxed (B : Nat) (w w1 : World) (p g h cap g' h' cap' : Nat) (s : St) (x a n : Int) (t : ByteArray) : Prop where
  both : Both B w1 g h cap g' h' cap' s
  c0 : w1.cell? ⟨p, 0, none⟩ = some (.int .u8 x)
  c1 : w1.cell? ⟨p, 1, none⟩ = some (.int .i64 a)
  c2 : w1.cell? ⟨p, 2, none⟩ = some (.int .i64 n)
  c3 : w1.cell? ⟨p, 3, none⟩ = some (.string t)
  ne : p ≠ g ∧ p ≠ h ∧ p ≠ g' ∧ p ≠ h'
  below : Below B w w1

theorem boxed {B : Nat} {w : World} {g h cap g' h' cap' : Nat} {s : St} (k : Both B w g h cap g' h' cap' s) (x a n : Int) (t : ByteArray) :
    Boxed B w (w.alloc (.cells #[.int .u8 x, .int .i64 a, .int .i64 n, .string t] 39)) w.heap.size g h cap g' h' cap' s x a n t := by
  have h1 : g < w.heap.size := (Array.getElem?_eq_some_iff.1 k.d.blk).1
  have h2 := k.d.lt
  have h3 := k.r.glt
  have h4 := k.r.lt
  exact ⟨k.below ((Below.refl _ _).alloc (Nat.le_refl _) _), box4 x a n t 0, box4 x a n t 1, box4 x a n t 2, box4 x a n t 3, ⟨by omega, by omega, by omega, by omega⟩, (Below.refl _ _).alloc k.lt _⟩

/-- Behind an act: the two stores, and nothing below B has turned. -/
def Went (B : Nat) (w : World) (g h cap g' h' cap' : Nat) (s : St) (e : Ending) (w' : World) : Prop :=
  e = .returned (.bool true) ∧ Both B w' g h cap g' h' cap' s ∧ Below B w w'

theorem rleft_on {s : St} (h : s.armed = true) : rleft s = s.left := by simp [rleft, h]
theorem rleft_off {s : St} (h : s.armed = false) : rleft s = -1 := by simp [rleft, h]
theorem armed_t {w : World} {g h cap : Nat} {s : St} (k : StAt w g h cap s) (hA : s.armed = true) :
    Calls Try.prog 36 #[.pointer (some ⟨g, 0, none⟩)] w fun e w' => e = .returned (.tuple #[.int .i64 s.left, .bool true]) ∧ w = w' := by
  have := armed_any k
  rw [hA] at this
  exact this
theorem armed_f {w : World} {g h cap : Nat} {s : St} (k : StAt w g h cap s) (hA : s.armed = false) :
    Calls Try.prog 36 #[.pointer (some ⟨g, 0, none⟩)] w fun e w' => e = .returned (.tuple #[.int .i64 0, .bool false]) ∧ w = w' := by
  have := armed_any k
  rw [hA] at this
  exact this

set_option maxHeartbeats 1000000 in
theorem one_write {B : Nat} {w : World} {g h cap g' h' cap' : Nat} {s : St} (k : Both B w g h cap g' h' cap' s) (x a n : Int) (t : ByteArray) (hx0 : 0 ≤ x) (hx1 : x ≤ 255) (hx : x % 5 = 0) (ht : t.size ≤ 100) (hw : s.wrote + t.size ≤ 9223372036854775807) :
    Calls Try.prog 21 #[.pointer (some ⟨g, 0, none⟩), .pointer (some ⟨g', 0, none⟩), .agg #[.int .u8 x, .int .i64 a, .int .i64 n, .string t]] w (Went B w g h cap g' h' cap' (s.write a t.data.toList).2) := by
  have BX := hide (boxed k x a n t)
  clear k
  go_enter Try.func21, Try.ntmps21
  go_wp2_with fail
  have bx := BX.out
  clear BX
  generalize w.alloc (.cells #[.int .u8 x, .int .i64 a, .int .i64 n, .string t] 39) = w1 at bx ⊢
  generalize w.heap.size = p at bx ⊢
  have c1 := bx.c1
  have c3 := bx.c3
  have BX := hide bx
  have K := hide bx.both
  clear bx
  go_region_held3 (fun w' => w'.cell? ⟨p, 1, none⟩ = some (.int .i64 a) ∧ w'.cell? ⟨p, 3, none⟩ = some (.string t)) (first | exact ⟨c1, c3⟩ | exact ⟨d1, d3⟩ | exact ⟨e1, e3⟩)
    (first
      | (go_at_call 11; refine (write_any K.out.drew.d a t ?_ ?_).mono ?_; omega; exact hw; rintro e w2 ⟨rfl, k2, o2⟩; have d1 := o2.cell c1 BX.out.ne.1 BX.out.ne.2.1; have d3 := o2.cell c3 BX.out.ne.1 BX.out.ne.2.1)
      | (go_at_call 33; refine (rwrite_any (K.out.drew.r.keep o2 (Ne.symm K.out.ne.1) (Ne.symm K.out.ne.2.2.1) (Ne.symm K.out.ne.2.1) (Ne.symm K.out.ne.2.2.2)) a t ?_ ?_ ?_ ?_).mono ?_; exact K.out.d.left0; exact K.out.d.wrote0; exact hw; exact K.out.d.left1; rintro e w3 ⟨rfl, k3, o3⟩; have e1 := o3.cell d1 BX.out.ne.2.2.1 BX.out.ne.2.2.2; have e3 := o3.cell d3 BX.out.ne.2.2.1 BX.out.ne.2.2.2))
  have bt : Both B w3 g h cap g' h' cap' (s.write a t.data.toList).2 := ⟨k2.keep o3 K.out.ne.1 K.out.ne.2.1 K.out.ne.2.2.1 K.out.ne.2.2.2, k3, K.out.hg, K.out.hh, K.out.hg', K.out.hh', K.out.ne, Nat.le_trans K.out.lt (Nat.le_trans o2.size o3.size)⟩
  have bw : Below B w w3 := o3.below (o2.below BX.out.below.drew K.out.hg K.out.hh K.out.lt) K.out.hg' K.out.hh' (Nat.le_trans K.out.lt o2.size)
  clear k2 o2 k3 o3 d1 d3 e1 e3 c1 c3 K BX
  generalize hE : (s.write a t.data.toList).2 = s' at bt
  have HE := hide hE
  clear hE
  have r1 := RAt.c1 bt.r
  have r2 := RAt.c2 bt.r
  have r3 := RAt.c3 bt.r
  have rl := bt.d.left0
  have rm : max s'.left 0 = s'.left := by omega
  cases hA : s'.armed
  · rw [rleft_off hA] at r2
    have HA := hide hA
    have BT := hide bt
    clear hA bt
    go_wp2_with (go_at_call 36; refine (armed_f BT.out.d HA.out).mono ?_; rintro e w' ⟨rfl, rfl⟩)
    go_quiet ((first | (go_at_call 16; exact quiet_left (power_any (BT.out.d.drewN _))) | (go_at_call 13; exact quiet_left (wrote_any (BT.out.d.drewN _)))))
    go_wp2
    go_ret
    refine ⟨rfl, ?_, ⟨bw.os, bw.tape, bw.output, bw.size, bw.block⟩⟩
    rw [HE.out]
    exact BT.out.below ⟨rfl, rfl, rfl, Nat.le_refl _, fun _ _ => rfl⟩
  · rw [rleft_on hA] at r2
    have HA := hide hA
    have BT := hide bt
    clear hA bt
    go_wp2_with (go_at_call 36; refine (armed_t BT.out.d HA.out).mono ?_; rintro e w' ⟨rfl, rfl⟩)
    go_quiet ((first | (go_at_call 16; exact quiet_left (power_any (BT.out.d.drewN _))) | (go_at_call 13; exact quiet_left (wrote_any (BT.out.d.drewN _)))))
    go_wp2
    go_ret
    refine ⟨rfl, ?_, ⟨bw.os, bw.tape, bw.output, bw.size, bw.block⟩⟩
    rw [HE.out]
    exact BT.out.below ⟨rfl, rfl, rfl, Nat.le_refl _, fun _ _ => rfl⟩

section
attribute [local go_sem high] max_i
set_option maxHeartbeats 1000000 in
theorem one_arm {B : Nat} {w : World} {g h cap g' h' cap' : Nat} {s : St} (k : Both B w g h cap g' h' cap' s) (x a n : Int) (t : ByteArray) (hx0 : 0 ≤ x) (hx1 : x ≤ 255) (hx : x % 5 = 2) (hn : n ≤ 9223372036854775807) :
    Calls Try.prog 21 #[.pointer (some ⟨g, 0, none⟩), .pointer (some ⟨g', 0, none⟩), .agg #[.int .u8 x, .int .i64 a, .int .i64 n, .string t]] w (Went B w g h cap g' h' cap' ({ s with armed := true, left := max n 0 } : St)) := by
  have BX := hide (boxed k x a n t)
  clear k
  go_enter Try.func21, Try.ntmps21
  go_wp2_with fail
  have bx := BX.out
  clear BX
  generalize w.alloc (.cells #[.int .u8 x, .int .i64 a, .int .i64 n, .string t] 39) = w1 at bx ⊢
  generalize w.heap.size = p at bx ⊢
  have c2 := bx.c2
  have BX := hide bx
  have K := hide bx.both
  clear bx
  go_wp2_with fail
  refine (arm_any K.out.d n hn).mono ?_
  rintro e w2 ⟨rfl, k2, o2⟩
  have r2 := K.out.r.keep o2 (Ne.symm K.out.ne.1) (Ne.symm K.out.ne.2.2.1) (Ne.symm K.out.ne.2.1) (Ne.symm K.out.ne.2.2.2)
  have d2 := o2.cell c2 BX.out.ne.1 BX.out.ne.2.1
  have rc := RAt.c2 r2
  have rf := r2.f 2
  have R2 := hide r2
  clear r2 c2
  go_wp2_with fail
  have bt : Both B (w2.setCell ⟨g', 2, none⟩ (.int .i64 (max n 0))) g h cap g' h' cap' ({ s with armed := true, left := max n 0 } : St) := ⟨k2.keep ((Only.refl g' h' w2).set g' 2 _ (.inl rfl)) K.out.ne.1 K.out.ne.2.1 K.out.ne.2.2.1 K.out.ne.2.2.2, R2.out.set 1 _, K.out.hg, K.out.hh, K.out.hg', K.out.hh', K.out.ne, Nat.le_trans K.out.lt (Nat.le_trans o2.size (by simp [World.setCell]))⟩
  have bw : Below B w (w2.setCell ⟨g', 2, none⟩ (.int .i64 (max n 0))) := (o2.below BX.out.below K.out.hg K.out.hh K.out.lt).setCell K.out.hg' _
  clear k2 o2 K BX d2 rc rf R2
  generalize w2.setCell ⟨g', 2, none⟩ (.int .i64 (max n 0)) = w3 at bt bw ⊢
  generalize hE : ({ s with armed := true, left := max n 0 } : St) = s' at bt
  have HE := hide hE
  clear hE
  have r1 := RAt.c1 bt.r
  have r2 := RAt.c2 bt.r
  have r3 := RAt.c3 bt.r
  have rl := bt.d.left0
  have rm : max s'.left 0 = s'.left := by omega
  cases hA : s'.armed
  · rw [rleft_off hA] at r2
    have HA := hide hA
    have BT := hide bt
    clear hA bt
    go_wp2_with (go_at_call 36; refine (armed_f BT.out.d HA.out).mono ?_; rintro e w' ⟨rfl, rfl⟩)
    go_quiet ((first | (go_at_call 16; exact quiet_left (power_any (BT.out.d.drewN _))) | (go_at_call 13; exact quiet_left (wrote_any (BT.out.d.drewN _)))))
    go_wp2
    go_ret
    refine ⟨rfl, ?_, ⟨bw.os, bw.tape, bw.output, bw.size, bw.block⟩⟩
    rw [HE.out]
    exact BT.out.below ⟨rfl, rfl, rfl, Nat.le_refl _, fun _ _ => rfl⟩
  · rw [rleft_on hA] at r2
    have HA := hide hA
    have BT := hide bt
    clear hA bt
    go_wp2_with (go_at_call 36; refine (armed_t BT.out.d HA.out).mono ?_; rintro e w' ⟨rfl, rfl⟩)
    go_quiet ((first | (go_at_call 16; exact quiet_left (power_any (BT.out.d.drewN _))) | (go_at_call 13; exact quiet_left (wrote_any (BT.out.d.drewN _)))))
    go_wp2
    go_ret
    refine ⟨rfl, ?_, ⟨bw.os, bw.tape, bw.output, bw.size, bw.block⟩⟩
    rw [HE.out]
    exact BT.out.below ⟨rfl, rfl, rfl, Nat.le_refl _, fun _ _ => rfl⟩

end

set_option maxHeartbeats 1000000 in
theorem one_off {B : Nat} {w : World} {g h cap g' h' cap' : Nat} {s : St} (k : Both B w g h cap g' h' cap' s) (x a n : Int) (t : ByteArray) (hx0 : 0 ≤ x) (hx1 : x ≤ 255) (hx : x % 5 = 3) :
    Calls Try.prog 21 #[.pointer (some ⟨g, 0, none⟩), .pointer (some ⟨g', 0, none⟩), .agg #[.int .u8 x, .int .i64 a, .int .i64 n, .string t]] w (Went B w g h cap g' h' cap' ({ s with dark := true, armed := false, left := 0 } : St)) := by
  have BX := hide (boxed k x a n t)
  clear k
  go_enter Try.func21, Try.ntmps21
  go_wp2_with fail
  have bx := BX.out
  clear BX
  generalize w.alloc (.cells #[.int .u8 x, .int .i64 a, .int .i64 n, .string t] 39) = w1 at bx ⊢
  generalize w.heap.size = p at bx ⊢
  have BX := hide bx
  have K := hide bx.both
  clear bx
  go_wp2_with fail
  refine (off_any K.out.d).mono ?_
  rintro e w2 ⟨rfl, k2, o2⟩
  have R2 := hide (K.out.r.keep o2 (Ne.symm K.out.ne.1) (Ne.symm K.out.ne.2.2.1) (Ne.symm K.out.ne.2.1) (Ne.symm K.out.ne.2.2.2))
  go_wp2_with fail
  refine (roff_any R2.out).mono ?_
  rintro e w3 ⟨rfl, r3, o3⟩
  have bt : Both B w3 g h cap g' h' cap' ({ s with dark := true, armed := false, left := 0 } : St) := ⟨k2.keep o3 K.out.ne.1 K.out.ne.2.1 K.out.ne.2.2.1 K.out.ne.2.2.2, r3, K.out.hg, K.out.hh, K.out.hg', K.out.hh', K.out.ne, Nat.le_trans K.out.lt (Nat.le_trans o2.size o3.size)⟩
  have bw : Below B w w3 := o3.below (o2.below BX.out.below K.out.hg K.out.hh K.out.lt) K.out.hg' K.out.hh' (Nat.le_trans K.out.lt o2.size)
  clear k2 o2 o3 r3 K BX R2
  generalize hE : ({ s with dark := true, armed := false, left := 0 } : St) = s' at bt
  have HE := hide hE
  clear hE
  have r1 := RAt.c1 bt.r
  have r2 := RAt.c2 bt.r
  have r3 := RAt.c3 bt.r
  have rl := bt.d.left0
  have rm : max s'.left 0 = s'.left := by omega
  cases hA : s'.armed
  · rw [rleft_off hA] at r2
    have HA := hide hA
    have BT := hide bt
    clear hA bt
    go_wp2_with (go_at_call 36; refine (armed_f BT.out.d HA.out).mono ?_; rintro e w' ⟨rfl, rfl⟩)
    go_quiet ((first | (go_at_call 16; exact quiet_left (power_any (BT.out.d.drewN _))) | (go_at_call 13; exact quiet_left (wrote_any (BT.out.d.drewN _)))))
    go_wp2
    go_ret
    refine ⟨rfl, ?_, ⟨bw.os, bw.tape, bw.output, bw.size, bw.block⟩⟩
    rw [HE.out]
    exact BT.out.below ⟨rfl, rfl, rfl, Nat.le_refl _, fun _ _ => rfl⟩
  · rw [rleft_on hA] at r2
    have HA := hide hA
    have BT := hide bt
    clear hA bt
    go_wp2_with (go_at_call 36; refine (armed_t BT.out.d HA.out).mono ?_; rintro e w' ⟨rfl, rfl⟩)
    go_quiet ((first | (go_at_call 16; exact quiet_left (power_any (BT.out.d.drewN _))) | (go_at_call 13; exact quiet_left (wrote_any (BT.out.d.drewN _)))))
    go_wp2
    go_ret
    refine ⟨rfl, ?_, ⟨bw.os, bw.tape, bw.output, bw.size, bw.block⟩⟩
    rw [HE.out]
    exact BT.out.below ⟨rfl, rfl, rfl, Nat.le_refl _, fun _ _ => rfl⟩

set_option maxHeartbeats 1000000 in
theorem one_on {B : Nat} {w : World} {g h cap g' h' cap' : Nat} {s : St} (k : Both B w g h cap g' h' cap' s) (x a n : Int) (t : ByteArray) (hx0 : 0 ≤ x) (hx1 : x ≤ 255) (hx : x % 5 = 4) :
    Calls Try.prog 21 #[.pointer (some ⟨g, 0, none⟩), .pointer (some ⟨g', 0, none⟩), .agg #[.int .u8 x, .int .i64 a, .int .i64 n, .string t]] w (Went B w g h cap g' h' cap' ({ s with dark := false } : St)) := by
  have BX := hide (boxed k x a n t)
  clear k
  go_enter Try.func21, Try.ntmps21
  go_wp2_with fail
  have bx := BX.out
  clear BX
  generalize w.alloc (.cells #[.int .u8 x, .int .i64 a, .int .i64 n, .string t] 39) = w1 at bx ⊢
  generalize w.heap.size = p at bx ⊢
  have BX := hide bx
  have K := hide bx.both
  clear bx
  go_wp2_with fail
  refine (on_any K.out.d).mono ?_
  rintro e w2 ⟨rfl, k2, o2⟩
  have r2 := K.out.r.keep o2 (Ne.symm K.out.ne.1) (Ne.symm K.out.ne.2.2.1) (Ne.symm K.out.ne.2.1) (Ne.symm K.out.ne.2.2.2)
  have rc := RAt.c1 r2
  have rf := r2.f 1
  have R2 := hide r2
  clear r2
  go_wp2_with fail
  have bt : Both B (w2.setCell ⟨g', 1, none⟩ (.bool true)) g h cap g' h' cap' ({ s with dark := false } : St) := ⟨k2.keep ((Only.refl g' h' w2).set g' 1 _ (.inl rfl)) K.out.ne.1 K.out.ne.2.1 K.out.ne.2.2.1 K.out.ne.2.2.2, R2.out.set 0 _, K.out.hg, K.out.hh, K.out.hg', K.out.hh', K.out.ne, Nat.le_trans K.out.lt (Nat.le_trans o2.size (by simp [World.setCell]))⟩
  have bw : Below B w (w2.setCell ⟨g', 1, none⟩ (.bool true)) := (o2.below BX.out.below K.out.hg K.out.hh K.out.lt).setCell K.out.hg' _
  clear k2 o2 K BX rc rf R2
  generalize w2.setCell ⟨g', 1, none⟩ (.bool true) = w3 at bt bw ⊢
  generalize hE : ({ s with dark := false } : St) = s' at bt
  have HE := hide hE
  clear hE
  have r1 := RAt.c1 bt.r
  have r2 := RAt.c2 bt.r
  have r3 := RAt.c3 bt.r
  have rl := bt.d.left0
  have rm : max s'.left 0 = s'.left := by omega
  cases hA : s'.armed
  · rw [rleft_off hA] at r2
    have HA := hide hA
    have BT := hide bt
    clear hA bt
    go_wp2_with (go_at_call 36; refine (armed_f BT.out.d HA.out).mono ?_; rintro e w' ⟨rfl, rfl⟩)
    go_quiet ((first | (go_at_call 16; exact quiet_left (power_any (BT.out.d.drewN _))) | (go_at_call 13; exact quiet_left (wrote_any (BT.out.d.drewN _)))))
    go_wp2
    go_ret
    refine ⟨rfl, ?_, ⟨bw.os, bw.tape, bw.output, bw.size, bw.block⟩⟩
    rw [HE.out]
    exact BT.out.below ⟨rfl, rfl, rfl, Nat.le_refl _, fun _ _ => rfl⟩
  · rw [rleft_on hA] at r2
    have HA := hide hA
    have BT := hide bt
    clear hA bt
    go_wp2_with (go_at_call 36; refine (armed_t BT.out.d HA.out).mono ?_; rintro e w' ⟨rfl, rfl⟩)
    go_quiet ((first | (go_at_call 16; exact quiet_left (power_any (BT.out.d.drewN _))) | (go_at_call 13; exact quiet_left (wrote_any (BT.out.d.drewN _)))))
    go_wp2
    go_ret
    refine ⟨rfl, ?_, ⟨bw.os, bw.tape, bw.output, bw.size, bw.block⟩⟩
    rw [HE.out]
    exact BT.out.below ⟨rfl, rfl, rfl, Nat.le_refl _, fun _ _ => rfl⟩

end Go.Proofs.Ytoekemceminciaa
