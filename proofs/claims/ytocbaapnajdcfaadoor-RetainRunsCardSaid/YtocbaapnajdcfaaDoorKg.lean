/- The document's Commit: what it gathers (places, bytes) and the bytes that it writes. -/
import Derived.Test.YtocbaapnajdcfaaDoorRw
import Derived.Test.YtocbaapnajdcfaaDoorLa
namespace Go.Proofs.YtocbaapnajdcfaaDoor
open Go.RowKit
set_option linter.unusedVariables false
set_option linter.unusedSimpArgs false

theorem own_ne {w : World} {B B' e e' size size' n n' : Nat} {x y : Value} {xs ys : List Value} (hx : w.ownsRow B e size x n xs) (hy : w.ownsRow B' e' size' y n' ys) (he : e ≠ e') {g : Nat} (hg : y.ownBlock = some g) : x.ownBlock ≠ some g := by
  intro h
  rcases hx.2 with ⟨rfl, _⟩ | ⟨a, cap, cur, rfl, _, h1, _⟩
  · cases h
  · rcases hy.2 with ⟨rfl, _⟩ | ⟨b, cap', cur', rfl, _, h2, _⟩
    · cases hg
    · have e1 : a = g := Option.some.inj h
      have e2 : b = g := Option.some.inj hg
      subst e1 e2
      rw [h1] at h2
      simp at h2
      exact he h2.2

/-- Bytes in a block. -/
def BArr (w : World) (h : Nat) (S : List UInt8) : Prop := ∃ (arr : Array Value) (m : Nat × Nat), w.heap[h]? = some (.cells arr 5 m) ∧ (S.length ≤ arr.size ∧ S.length ≤ m.1) ∧ ∀ i (hi : i < S.length), arr[i]? = some (.int .u8 (S[i].toNat : Int))
theorem BArr.lt {w : World} {h : Nat} {S : List UInt8} (b : BArr w h S) : h < w.heap.size := by
  obtain ⟨_, _, h1, _⟩ := b
  exact (Array.getElem?_eq_some_iff.1 h1).1
theorem BArr.keep {w w' : World} {h : Nat} {S : List UInt8} (b : BArr w h S) (e : w'.heap[h]? = w.heap[h]?) : BArr w' h S := by
  obtain ⟨arr, m, h1, h2⟩ := b
  exact ⟨arr, m, e.trans h1, h2⟩
theorem BArr.set {w : World} {h : Nat} {S : List UInt8} (b : BArr w h S) (p : Nat) (x : UInt8) : BArr (w.setCell ⟨h, p, none⟩ (.int .u8 (x.toNat : Int))) h (S.set p x) := by
  obtain ⟨arr, m, h1, h2, h3⟩ := b
  refine ⟨_, m, set_heap h1 p _, by simpa using h2, fun i hi => ?_⟩
  have hi2 : i < S.length := by simpa using hi
  rw [List.getElem_set, Array.getElem?_setIfInBounds]
  by_cases hp : p = i
  · subst hp
    rw [if_pos rfl, if_pos rfl, if_pos (by omega)]
  · rw [if_neg hp, if_neg hp]
    exact h3 i hi2
theorem BArr.cell {w : World} {h : Nat} {S : List UInt8} (b : BArr w h S) (i : Nat) (hi : i < S.length) : w.cell? ⟨h, i, none⟩ = some (.int .u8 (S[i].toNat : Int)) := by
  obtain ⟨arr, m, h1, h2, h3⟩ := b
  rw [blk_cell h1]
  exact h3 i hi
theorem BArr.free {w : World} {h : Nat} {S : List UInt8} (b : BArr w h S) (i : Nat) (hi : i < S.length) : w.frozen? ⟨h, i, none⟩ = false := by
  obtain ⟨arr, m, h1, h2, _⟩ := b
  simp [World.frozen?, h1]
  omega

structure Gath (wh wr : World) (h : Nat) (S : List UInt8) (P : List Nat) (Q : List UInt8) (v12 v13 : Value) : Prop where
  hz : wh.heap.size = h
  bl : Below h wh wr
  b : BArr wr h S
  p : wr.ownsRow (h + 1) 3 1 v12 P.length (P.map fun n => Value.int .i64 (n : Nat))
  q : wr.ownsRow (h + 1) 5 1 v13 Q.length (cellsU Q)

section
variable {wh wr w2 : World} {h : Nat} {S Q : List UInt8} {P : List Nat} {v12 v13 v' : Value}
theorem Gath.le (g : Gath wh wr h S P Q v12 v13) : h < wr.heap.size := g.b.lt
theorem Gath.p_add (g : Gath wh wr h S P Q v12 v13) (x : Nat) {o : Obj} (hg : (wr.alloc o).grownBy w2 v12.ownBlock) (ho : w2.ownsRow (h + 1) 3 1 v' (P.length + 1) ((P.map fun n => Value.int .i64 (n : Nat)) ++ [Value.int .i64 (x : Nat)])) : Gath wh w2 h S (P ++ [x]) Q v' v13 := by
  have hl := g.le
  refine ⟨g.hz, ?_, ?_, by simpa using ho, ?_⟩
  · exact below_grown (g.bl.alloc (by omega) o) hg (fun k hk => own_row g.p k (by omega)) (by simp; omega)
  · exact g.b.keep ((hg.block h (by simp; omega) (own_row g.p h (by omega))).trans (Below.heap_alloc wr o h hl))
  · refine (g.q.alloc o).kept hg ?_
    by_cases hv : v13.ownBlock = none
    · exact .inl hv
    · refine .inr fun e => ?_
      obtain ⟨k, hk⟩ := Option.ne_none_iff_exists'.1 hv
      exact own_ne g.p g.q (by decide) hk (e.symm.trans hk)
theorem Gath.q_add (g : Gath wh wr h S P Q v12 v13) (x : UInt8) {o : Obj} (hg : (wr.alloc o).grownBy w2 v13.ownBlock) (ho : w2.ownsRow (h + 1) 5 1 v' (Q.length + 1) (cellsU Q ++ [Value.int .u8 (x.toNat : Int)])) : Gath wh w2 h S P (Q ++ [x]) v12 v' := by
  have hl := g.le
  refine ⟨g.hz, ?_, ?_, ?_, by simpa [cellsU] using ho⟩
  · exact below_grown (g.bl.alloc (by omega) o) hg (fun k hk => own_row g.q k (by omega)) (by simp; omega)
  · exact g.b.keep ((hg.block h (by simp; omega) (own_row g.q h (by omega))).trans (Below.heap_alloc wr o h hl))
  · refine (g.p.alloc o).kept hg ?_
    by_cases hv : v12.ownBlock = none
    · exact .inl hv
    · refine .inr fun e => ?_
      obtain ⟨k, hk⟩ := Option.ne_none_iff_exists'.1 hv
      exact own_ne g.q g.p (by decide) hk (e.symm.trans hk)
theorem Gath.pn (g : Gath wh wr h S P Q v12 v13) {n : Nat} (hn : P.length = n) : wr.ownsRow (h + 1) 3 1 v12 n (P.map fun n => Value.int .i64 (n : Nat)) := hn ▸ g.p
theorem Gath.qn (g : Gath wh wr h S P Q v12 v13) {n : Nat} (hn : Q.length = n) : wr.ownsRow (h + 1) 5 1 v13 n (cellsU Q) := hn ▸ g.q
theorem Gath.p_addn (g : Gath wh wr h S P Q v12 v13) {n : Nat} (hn : P.length = n) (x : Nat) {o : Obj} (hg : (wr.alloc o).grownBy w2 v12.ownBlock) (ho : w2.ownsRow (h + 1) 3 1 v' (n + 1) ((P.map fun n => Value.int .i64 (n : Nat)) ++ [Value.int .i64 (x : Nat)])) : Gath wh w2 h S (P ++ [x]) Q v' v13 := g.p_add x hg (by rw [hn]; exact ho)
theorem Gath.q_addn (g : Gath wh wr h S P Q v12 v13) {n : Nat} (hn : Q.length = n) (x : UInt8) {o : Obj} (hg : (wr.alloc o).grownBy w2 v13.ownBlock) (ho : w2.ownsRow (h + 1) 5 1 v' (n + 1) (cellsU Q ++ [Value.int .u8 (x.toNat : Int)])) : Gath wh w2 h S P (Q ++ [x]) v12 v' := g.q_add x hg (by rw [hn]; exact ho)
theorem Gath.below (g : Gath wh wr h S P Q v12 v13) (b : Below wr.heap.size wr w2) : Gath wh w2 h S P Q v12 v13 := by
  have hl := g.le
  exact ⟨g.hz, g.bl.trans (b.mono (by omega)), g.b.keep (b.block _ hl), own_keep g.p fun k _ hk => b.block k hk, own_keep g.q fun k _ hk => b.block k hk⟩
theorem Gath.drew (g : Gath wh wr h S P Q v12 v13) (n : Nat) : Gath wh (wr.drewN n) h S P Q v12 v13 := g.below (below_drewN (Below.refl _ _) n)
theorem Gath.set (g : Gath wh wr h S P Q v12 v13) (p : Nat) (x : UInt8) : Gath wh (wr.setCell ⟨h, p, none⟩ (.int .u8 (x.toNat : Int))) h (S.set p x) P Q v12 v13 :=
  ⟨g.hz, g.bl.setCell (p := ⟨h, p, none⟩) (Nat.le_refl _) _, g.b.set p x, own_keep g.p fun k hk _ => set_other _ _ (by omega), own_keep g.q fun k hk _ => set_other _ _ (by omega)⟩
theorem own_shape {w : World} {B e n : Nat} {v : Value} {xs : List Value} (o : w.ownsRow B e 1 v n xs) (hn : 0 < n) : ∃ p c, v = .slice (some ⟨p, 0, none⟩) n c ∧ ∀ i u, xs[i]? = some u → w.cell? ⟨p, i, none⟩ = some u := by
  rcases o.2 with ⟨rfl, rfl⟩ | ⟨p, c, cur, rfl, hb, hh, h1⟩
  · have := o.1
    simp at this
    omega
  · refine ⟨p, c, rfl, fun i u hu => ?_⟩
    have := o.cells (g := p) rfl i u hu
    have hadd : (⟨p, 0, none⟩ : Addr).add i = ⟨p, i, none⟩ := by unfold Addr.add; split <;> simp_all
    rwa [hadd] at this
theorem Gath.pcell {n p0 c : Nat} (g : Gath wh wr h S P Q (.slice (some ⟨p0, 0, none⟩) n c) v13) {i p : Nat} (hp : P[i]? = some p) : wr.cell? ⟨p0, i, none⟩ = some (.int .i64 (p : Nat)) := by
  have := g.p.cells (g := p0) rfl i (.int .i64 (p : Nat)) (by rw [List.getElem?_map, hp]; rfl)
  have hadd : (⟨p0, 0, none⟩ : Addr).add i = ⟨p0, i, none⟩ := by unfold Addr.add; split <;> simp_all
  rwa [hadd] at this
theorem Gath.qcell {n q0 c : Nat} (g : Gath wh wr h S P Q v12 (.slice (some ⟨q0, 0, none⟩) n c)) {i : Nat} {x : UInt8} (hx : Q[i]? = some x) : wr.cell? ⟨q0, i, none⟩ = some (.int .u8 (x.toNat : Int)) := by
  have := g.q.cells (g := q0) rfl i (.int .u8 (x.toNat : Int)) (by rw [cellsU, List.getElem?_map, hx]; rfl)
  have hadd : (⟨q0, 0, none⟩ : Addr).add i = ⟨q0, i, none⟩ := by unfold Addr.add; split <;> simp_all
  rwa [hadd] at this
theorem Gath.start (wh : World) (s : ByteArray) : Gath wh (Lib.bytesWorld wh 5 s) wh.heap.size s.data.toList [] [] (.slice none 0 0) (.slice none 0 0) := by
  have hz := Lib.bytesWorld_size wh 5 s
  have hcs : s.size ≤ (Lib.bytesCells wh 5 s).size := by simp [Lib.bytesCells]
  refine ⟨rfl, ⟨rfl, rfl, rfl, by omega, fun k hk => Lib.bytesWorld_at_old wh 5 s k hk⟩, ⟨_, _, Lib.bytesWorld_at_new wh 5 s, by rw [size_data]; exact ⟨hcs, hcs⟩, fun i hi => ?_⟩, World.ownsRow_nil _ _ _ _, World.ownsRow_nil _ _ _ _⟩
  have hi2 : i < s.size := by rw [size_data] at hi; exact hi
  simp [Lib.bytesCells, Array.getElem?_append, hi2]
/-- The bytes as a string. -/
theorem Gath.conv (g : Gath wh wr h S P Q v12 v13) {c : Nat} (W : World) (hW : W.heap = wr.heap) : (convert 28 9 (.slice (some ⟨h, 0, none⟩) S.length c)).run Tryd.prog W = .ok (.string (ofL S)) W := by
  have hb : BArr W h S := g.b.keep (by rw [hW])
  have := run_convert_bytes_arg (P := Tryd.prog) W 28 5 Tryd.underlying28 Tryd.underlying5 h 0 S.length c (numsOf S) (by simp [numsOf]) (fun j hj => by
    have hj2 : j < S.length := hj
    rw [Nat.zero_add, hb.cell j hj2]
    simp [numsOf, hj2]) 9 Tryd.underlying9
  rw [this, strOf_nums]
end
end Go.Proofs.YtocbaapnajdcfaaDoor
