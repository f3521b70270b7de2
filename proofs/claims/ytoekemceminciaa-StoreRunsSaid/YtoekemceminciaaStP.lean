/- One Read of StoreRuns: the store's and the reference's bytes. -/
import Derived.Test.YtoekemceminciaaStO
namespace Go.Proofs.Ytoekemceminciaa
open Go.RowKit
set_option linter.unusedVariables false
set_option linter.unusedSimpArgs false
attribute [local go_sem] ofL_toList

theorem Both.drewN {B : Nat} {w : World} {g h cap g' h' cap' : Nat} {s : St} (k : Both B w g h cap g' h' cap' s) (n : Nat) : Both B (w.drewN n) g h cap g' h' cap' s := k.below ⟨rfl, rfl, rfl, Nat.le_refl _, fun _ _ => rfl⟩

/-- 'string(b[a:][:m])'. -/
theorem cut_two {P : Program} (t e : TypeId) (ht : P.underlying t = some (.slice e)) (hs : (P.info? e).map (·.size) = some 1) (he : P.underlying e = some (.int .u8)) (h n c : Nat) (a m : Int) (h0 : 0 ≤ a) (h1 : 0 ≤ m) (hn : n ≤ c) (h2 : a + m ≤ n)
    (l : List UInt8) (hl : l.length = n) (w : World) (hc : ∀ i (hi : i < l.length), w.cell? ⟨h, i, none⟩ = some (.int .u8 (l[i].toNat : Int))) :
    ∃ A' : Option Addr, (∀ W : World, (Instr.slice t (.slice (some ⟨h, 0, none⟩) n c) (some (.int .i64 a)) none none).run P W = .ok (.slice A' (n - a.toNat) (c - a.toNat)) W) ∧
      (∀ W : World, (Instr.slice t (.slice A' (n - a.toNat) (c - a.toNat)) none (some (.int .i64 m)) none).run P W = .ok (.slice A' m.toNat (c - a.toNat)) W) ∧
      ∀ W : World, W.heap = w.heap → ∀ dst, P.underlying dst = some .string → (convert t dst (.slice A' m.toNat (c - a.toNat))).run P W = .ok (.string (ofL ((l.drop a.toNat).take m.toNat))) W := by
  have hel : P.elem t = e := by simp [Program.elem, ht]
  have hu : P.underlying t = some (.slice (P.elem t)) := by rw [hel]; exact ht
  refine ⟨_, cut_l t e ht hs h n c a h0 (by omega), fun W => ?_, fun W hW dst hd => ?_⟩
  · rw [run_slice_h W t _ (n - a.toNat) (c - a.toNat) hu .i64 m h1 (by omega)]
    obtain ⟨i, hi, hsz⟩ : ∃ i, P.info? e = some i ∧ i.size = 1 := by simpa using hs
    simp [sizeOf, typeInfo, hel, hi, hsz, sliced, Result.andThen]
    intro _
    simp [Addr.add]
  · have := run_convert_bytes_arg (P := P) W t e ht he h (if c = a.toNat then 0 else a.toNat) m.toNat (c - a.toNat) (numsOf ((l.drop a.toNat).take m.toNat)) (by simp [numsOf]; omega) (fun j hj => by
      have hne : c ≠ a.toNat := by omega
      rw [if_neg hne, World.cell?_of_block (w := w) (by rw [hW]), hc (a.toNat + j) (by omega)]
      simp [numsOf, List.getD, hj, show a.toNat + j < l.length by omega]) dst hd
    rw [this, strOf_nums]

set_option maxHeartbeats 1000000 in
theorem one_no {B : Nat} {w : World} {g h cap g' h' cap' : Nat} {s : St} (k : Both B w g h cap g' h' cap' s) (x a n : Int) (t : ByteArray) (hx0 : 0 ≤ x) (hx1 : x ≤ 255) (hx : x % 5 = 1) (hy : ¬ There s.b.length a n) :
    Calls Try.prog 21 #[.pointer (some ⟨g, 0, none⟩), .pointer (some ⟨g', 0, none⟩), .agg #[.int .u8 x, .int .i64 a, .int .i64 n, .string t]] w (Went B w g h cap g' h' cap' s) := by
  have BX := hide (boxed k x a n t)
  clear k
  go_enter Try.func21, Try.ntmps21
  go_wp2_with fail
  have bx := BX.out
  clear BX
  generalize w.alloc (.cells #[.int .u8 x, .int .i64 a, .int .i64 n, .string t] 39) = w1 at bx ⊢
  generalize w.heap.size = p at bx ⊢
  have c1 := bx.c1
  have c2 := bx.c2
  have BX := hide bx
  have HY := hide hy
  clear hy
  go_wp2_with (go_at_call 12; refine (read_no BX.out.both.d a n HY.out).mono ?_; rintro e w' ⟨rfl, rfl⟩)
  go_quiet ((go_at_call 34; exact quiet_left (rthere_no (BX.out.both.drewN _).r a n HY.out)))
  have bt : Both B (w1.drewN nq) g h cap g' h' cap' s := bx.both.below ⟨rfl, rfl, rfl, Nat.le_refl _, fun _ _ => rfl⟩
  have bw : Below B w (w1.drewN nq) := ⟨bx.below.os, bx.below.tape, bx.below.output, bx.below.size, bx.below.block⟩
  clear c1 c2 BX bx
  generalize w1.drewN nq = w3 at bt bw ⊢
  have r1 := RAt.c1 bt.r
  have r2 := RAt.c2 bt.r
  have r3 := RAt.c3 bt.r
  have rl := bt.d.left0
  have rm : max s.left 0 = s.left := by omega
  cases hA : s.armed
  · rw [rleft_off hA] at r2
    have HA := hide hA
    have BT := hide bt
    clear hA bt
    go_wp2_with (go_at_call 36; refine (armed_f BT.out.d HA.out).mono ?_; rintro e w' ⟨rfl, rfl⟩)
    go_quiet ((first | (go_at_call 16; exact quiet_left (power_any (BT.out.d.drewN _))) | (go_at_call 13; exact quiet_left (wrote_any (BT.out.d.drewN _)))))
    go_wp2
    go_ret
    refine ⟨rfl, ?_, ⟨bw.os, bw.tape, bw.output, bw.size, bw.block⟩⟩
    skip
    exact BT.out.below ⟨rfl, rfl, rfl, Nat.le_refl _, fun _ _ => rfl⟩
  · rw [rleft_on hA] at r2
    have HA := hide hA
    have BT := hide bt
    clear hA bt
    go_wp2_with (go_at_call 36; refine (armed_t BT.out.d HA.out).mono ?_; rintro e w' ⟨rfl, rfl⟩)
    go_quiet ((first | (go_at_call 16; exact quiet_left (power_any (BT.out.d.drewN _))) | (go_at_call 13; exact quiet_left (wrote_any (BT.out.d.drewN _)))))
    go_wp2
    go_ret
    refine ⟨rfl, ?_, ⟨bw.os, bw.tape, bw.output, bw.size, bw.block⟩⟩
    skip
    exact BT.out.below ⟨rfl, rfl, rfl, Nat.le_refl _, fun _ _ => rfl⟩

set_option maxHeartbeats 1000000 in
theorem one_yes {B : Nat} {w : World} {g h cap g' h' cap' : Nat} {s : St} (k : Both B w g h cap g' h' cap' s) (x a n : Int) (t : ByteArray) (hx0 : 0 ≤ x) (hx1 : x ≤ 255) (hx : x % 5 = 1) (hy : There s.b.length a n) :
    Calls Try.prog 21 #[.pointer (some ⟨g, 0, none⟩), .pointer (some ⟨g', 0, none⟩), .agg #[.int .u8 x, .int .i64 a, .int .i64 n, .string t]] w (Went B w g h cap g' h' cap' s) := by
  have BX := hide (boxed k x a n t)
  clear k
  go_enter Try.func21, Try.ntmps21
  go_wp2_with fail
  have bx := BX.out
  clear BX
  generalize w.alloc (.cells #[.int .u8 x, .int .i64 a, .int .i64 n, .string t] 39) = w1 at bx ⊢
  generalize w.heap.size = p at bx ⊢
  have c1 := bx.c1
  have c2 := bx.c2
  have rc := RAt.c0 bx.both.r
  have BX := hide bx
  obtain ⟨y1, y2, y3, y4⟩ := id hy
  obtain ⟨A', hcut, hcut2, hconv⟩ := cut_two 41 5 Try.underlying41 Try.size5 Try.underlying5 h' s.b.length cap' a n y1 y3 bx.both.r.le (by omega) s.b rfl w1 bx.both.r.cell
  have hconv := fun k => hconv (w1.drewN k) rfl 9 Try.underlying9
  have HY := hide hy
  clear hy bx
  go_wp2_with (go_at_call 12; refine (read_yes BX.out.both.d a n HY.out).mono ?_; rintro e w' ⟨rfl, rfl⟩)
  go_quiet ((go_at_call 34; exact quiet_left (rthere_yes (BX.out.both.drewN _).r a n HY.out)))
  have bt : Both B (w1.drewN nq) g h cap g' h' cap' s := BX.out.both.below ⟨rfl, rfl, rfl, Nat.le_refl _, fun _ _ => rfl⟩
  have bw : Below B w (w1.drewN nq) := ⟨BX.out.below.os, BX.out.below.tape, BX.out.below.output, BX.out.below.size, BX.out.below.block⟩
  clear c1 c2 BX rc hcut hcut2 hconv
  generalize w1.drewN nq = w3 at bt bw ⊢
  have r1 := RAt.c1 bt.r
  have r2 := RAt.c2 bt.r
  have r3 := RAt.c3 bt.r
  have rl := bt.d.left0
  have rm : max s.left 0 = s.left := by omega
  cases hA : s.armed
  · rw [rleft_off hA] at r2
    have HA := hide hA
    have BT := hide bt
    clear hA bt
    go_wp2_with (go_at_call 36; refine (armed_f BT.out.d HA.out).mono ?_; rintro e w' ⟨rfl, rfl⟩)
    go_quiet ((first | (go_at_call 16; exact quiet_left (power_any (BT.out.d.drewN _))) | (go_at_call 13; exact quiet_left (wrote_any (BT.out.d.drewN _)))))
    go_wp2
    go_ret
    refine ⟨rfl, ?_, ⟨bw.os, bw.tape, bw.output, bw.size, bw.block⟩⟩
    skip
    exact BT.out.below ⟨rfl, rfl, rfl, Nat.le_refl _, fun _ _ => rfl⟩
  · rw [rleft_on hA] at r2
    have HA := hide hA
    have BT := hide bt
    clear hA bt
    go_wp2_with (go_at_call 36; refine (armed_t BT.out.d HA.out).mono ?_; rintro e w' ⟨rfl, rfl⟩)
    go_quiet ((first | (go_at_call 16; exact quiet_left (power_any (BT.out.d.drewN _))) | (go_at_call 13; exact quiet_left (wrote_any (BT.out.d.drewN _)))))
    go_wp2
    go_ret
    refine ⟨rfl, ?_, ⟨bw.os, bw.tape, bw.output, bw.size, bw.block⟩⟩
    skip
    exact BT.out.below ⟨rfl, rfl, rfl, Nat.le_refl _, fun _ _ => rfl⟩


/-- One act, whichever. -/
theorem one_any {B : Nat} {w : World} {g h cap g' h' cap' : Nat} {s : St} (k : Both B w g h cap g' h' cap' s) (x a n : Int) (t : ByteArray) (hx0 : 0 ≤ x) (hx1 : x ≤ 255) (hn : n ≤ 9223372036854775807) (ht : t.size ≤ 100) (hw : s.wrote + t.size ≤ 9223372036854775807) :
    Calls Try.prog 21 #[.pointer (some ⟨g, 0, none⟩), .pointer (some ⟨g', 0, none⟩), .agg #[.int .u8 x, .int .i64 a, .int .i64 n, .string t]] w (Went B w g h cap g' h' cap' (s.act x a n t)) := by
  unfold St.act
  split
  · exact one_write k x a n t hx0 hx1 (by assumption) ht hw
  · split
    · by_cases hy : There s.b.length a n
      · exact one_yes k x a n t hx0 hx1 (by assumption) hy
      · exact one_no k x a n t hx0 hx1 (by assumption) hy
    · split
      · exact one_arm k x a n t hx0 hx1 (by assumption) hn
      · split
        · exact one_off k x a n t hx0 hx1 (by assumption)
        · exact one_on k x a n t hx0 hx1 (by omega)

theorem write_wrote (s : St) (a : Int) (l : List UInt8) (hl : 0 ≤ s.left) : s.wrote ≤ (s.write a l).2.wrote ∧ (s.write a l).2.wrote ≤ s.wrote + l.length := by
  unfold St.write
  (repeat' split) <;> simp [St.paste] <;> omega
theorem act_wrote (s : St) (x a n : Int) (t : ByteArray) (hl : 0 ≤ s.left) : (s.act x a n t).wrote ≤ s.wrote + t.size := by
  have := write_wrote s a t.data.toList hl
  rw [size_data] at this
  unfold St.act
  (repeat' split) <;> simp <;> omega
end Go.Proofs.Ytoekemceminciaa
