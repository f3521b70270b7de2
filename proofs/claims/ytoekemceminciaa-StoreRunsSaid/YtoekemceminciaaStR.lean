/- The walks of the reference's store (layer 6): it does what the store does. -/
import Derived.Test.YtoekemceminciaaBt
import Derived.Test.YtoekemceminciaaStT
namespace Go.Proofs.Ytoekemceminciaa
open Go.RowKit
set_option linter.unusedVariables false
set_option linter.unusedSimpArgs false
attribute [local go_sem] ofL_toList

/-- The reference's store in memory, holding what a store of state s holds. -/
def rleft (s : St) : Int := if s.armed then s.left else -1
abbrev RAt (w : World) (g h cap : Nat) (s : St) : Prop := BAt 43 w g h cap s.b [.bool (!s.dark), .int .i64 (rleft s), .int .i64 s.wrote]

set_option maxHeartbeats 400000 in
theorem rthere_yes {w : World} {g h cap : Nat} {s : St} (k : RAt w g h cap s) (a m : Int) (hy : There s.b.length a m) :
    Calls Try.prog 34 #[.pointer (some ⟨g, 0, none⟩), .int .i64 a, .int .i64 m] w fun e w' => e = .returned (.bool true) ∧ w = w' := by
  obtain ⟨h1, h2, h3, h4⟩ := hy
  have hs := k.small
  have k0 : w.cell? ⟨g, 0, none⟩ = some (.slice (some ⟨h, 0, none⟩) s.b.length cap) := k.c 0
  clear k
  go_enter Try.func34, Try.ntmps34
  go_wp2
  go_ret
  exact ⟨rfl, rfl⟩

set_option maxHeartbeats 400000 in
theorem rthere_no {w : World} {g h cap : Nat} {s : St} (k : RAt w g h cap s) (a m : Int) (hy : ¬ There s.b.length a m) :
    Calls Try.prog 34 #[.pointer (some ⟨g, 0, none⟩), .int .i64 a, .int .i64 m] w fun e w' => e = .returned (.bool false) ∧ w = w' := by
  have hs := k.small
  have k0 : w.cell? ⟨g, 0, none⟩ = some (.slice (some ⟨h, 0, none⟩) s.b.length cap) := k.c 0
  unfold There at hy
  have HY := hide hy
  clear k hy
  go_enter Try.func34, Try.ntmps34
  go_wp2
  all_goals (go_ret; refine ⟨?_, rfl⟩)
  all_goals (have hy := HY.out; first | (simp; omega) | rfl | skip)

set_option maxHeartbeats 400000 in
theorem roff_any {w : World} {g h cap : Nat} {s : St} (k : RAt w g h cap s) :
    Calls Try.prog 35 #[.pointer (some ⟨g, 0, none⟩)] w fun e w' => e = .returned (.tuple #[]) ∧ RAt w' g h cap { s with dark := true, armed := false, left := 0 } ∧ Only g h w w' := by
  have k1 : w.cell? ⟨g, 1, none⟩ = some (.bool (!s.dark)) := k.c 1
  have k2 : w.cell? ⟨g, 2, none⟩ = some (.int .i64 (rleft s)) := k.c 2
  have f1 := k.f 1
  have f2 := k.f 2
  have K := hide k
  clear k
  go_enter Try.func35, Try.ntmps35
  go_wp2
  go_end0
  exact ⟨rfl, (K.out.set 0 (.bool false)).set 1 (.int .i64 (-1)), ((Only.refl g h w).set g 1 _ (.inl rfl)).set g 2 _ (.inl rfl)⟩

section
attribute [local go_sem high] max_i min_i
set_option maxHeartbeats 400000 in
theorem rnew_any (w : World) (n : Int) (m : Nat) (hm : min (max n 0) 1000 = (m : Int)) :
    Calls Try.prog 19 #[.int .i64 n] w fun e w' => e = .returned (.pointer (some ⟨w.heap.size + 1, 0, none⟩)) ∧
      RAt w' (w.heap.size + 1) w.heap.size m { b := List.replicate m 0, dark := false, armed := false, left := 0, wrote := 0 } ∧ Below w.heap.size w w' := by
  have hle : m ≤ 1000 := by omega
  have hmk := make_u8 41 5 Try.underlying41 info5 m hle
  have HM := hide hm
  go_enter Try.func19, Try.ntmps19
  go_wp2
  go_ret
  clear hmk hm
  have hb0 := old_alloc (heap_alloc_new w (.cells (madeCells #[.int .u8 0] m) 5)) (.cells #[.slice (some ⟨w.heap.size, 0, none⟩) m m, .bool true, .int .i64 (-1), .int .i64 0] 43)
  refine ⟨rfl, ⟨?_, by omega, fun i hi => ?_, fun i hi => ?_, by simp; omega, by simp, by simp; omega⟩, ((Below.refl _ _).alloc (Nat.le_refl _) _).alloc (by simp) _⟩
  · simp only [List.length_replicate]
    exact new_alloc _ trivial (by simp)
  · simp at hi
    rw [blk_cell hb0, madeCells_get _ _ _ (by omega)]
    simp
  · exact blk_frozen hb0 i
end

/-- A new store of the reference's. -/
def RMade (w : World) (s : St) (e : Ending) (w' : World) : Prop :=
  ∃ g h cap, e = .returned (.pointer (some ⟨g, 0, none⟩)) ∧ RAt w' g h cap s ∧ w.heap.size ≤ g ∧ w.heap.size ≤ h ∧ Below w.heap.size w w'

theorem rnew_made (w : World) (n : Int) : Calls Try.prog 19 #[.int .i64 n] w (RMade w { b := List.replicate (min (max n 0) 1000).toNat 0, dark := false, armed := false, left := 0, wrote := 0 }) :=
  (rnew_any w n (min (max n 0) 1000).toNat (by omega)).mono fun _ _ ⟨he, hr, hb⟩ => ⟨_, _, _, he, hr, by omega, by omega, hb⟩

theorem copy_full {w : World} {T : TypeId} {g h cap : Nat} {b : List UInt8} {cs : List Value} (k : BAt T w g h cap b cs) (t : ByteArray) (ht : t.size ≤ b.length) :
    ∃ w', (Builtin.copy_ #[41, 9] 3 #[.slice (some ⟨h, 0, none⟩) b.length cap, .string t]).run Try.prog w = .ok (goInt t.size) w' ∧ BAt T w' g h cap (pasteL b 0 t.data.toList) cs ∧ Only g h w w' := by
  have := copy_at 41 9 3 5 Try.underlying41 Try.size5 h b.length cap 0 t (by omega) k.le w (fun j hj => by rw [k.cell j hj]; rfl) k.free
  simp at this
  exact ⟨_, this, k.paste 0 _ (by rw [size_data]; omega) rfl, (Only.refl g h w).cells _ _⟩

theorem wpList_copy_go {P : Program} {ops : Array Oper} {rest : List Oper} {o : Oper} {a : Act} {w : World} {Q : Exit → Act → World → Prop} (hgd : o.guard = none) (d s : Operand) (t t' : TypeId)
    (ho : o.op = .call { callee := .builtin .copy, args := #[d, s], argTypes := #[t, t'] }) (v u : Value) (hd : a.eval d = v) (hs : a.eval s = u) {v' : Value} {w' : World}
    (hr : (Builtin.copy_ #[t, t'] o.type #[v, u]).run P w = .ok v' w') (h : wpList P ops Q rest (a.put o.dst v') w') : wpList P ops Q (o :: rest) a w :=
  wpList_plain hgd fun K hK => by
    have := step_copy_ex (P := P) (ops := ops) (o := o) (a := a) (w := w) (K := K) (Q := Q) (E := True) (R := fun x => x = w') hgd d s t t' ho v u hd hs ⟨w', hr, rfl⟩ (fun x hx => by subst hx; exact hK _ _ h)
    rwa [if_pos (by simp [Region.wanted, hgd])] at this

set_option maxHeartbeats 400000 in
set_option maxRecDepth 100000 in
theorem rof_any (w : World) (s : ByteArray) (hs : s.size ≤ 1000) :
    Calls Try.prog 20 #[.string s] w (RMade w { b := s.data.toList, dark := false, armed := false, left := 0, wrote := 0 }) := by
  go_enter Try.func20, Try.ntmps20
  go_wp2_with (first
    | (go_at_call 19; refine (rnew_any _ _ s.size (by omega)).mono ?_; rintro e w1 ⟨rfl, k1, b1⟩; have k10 : w1.cell? ⟨w.heap.size + 1, 0, none⟩ = some (.slice (some ⟨w.heap.size, 0, none⟩) s.size s.size) := (k1.c 0).trans (by simp); obtain ⟨w2, hrun, k2, o2⟩ := copy_full k1 s (by simp); simp only [List.length_replicate] at hrun; have HR := hide hrun; clear hrun)
    | (refine wpList_copy_go rfl (.tmp 10) (.tmp 11) 41 9 rfl _ _ rfl rfl HR.out ?_))
  go_ret
  have e1 : pasteL (List.replicate s.size 0) 0 s.data.toList = s.data.toList := by simp [pasteL, size_data]
  simp only [e1] at k2
  exact ⟨_, _, _, rfl, k2, by omega, by omega, o2.below b1 (by omega) (by omega) b1.size⟩
end Go.Proofs.Ytoekemceminciaa
