/- The walk of Split: a value's frames. -/
import Derived.Test.YtdmohidkighajaaGr
import Derived.Deep.DeepCutAuto
import Derived.Great.BuildSlice
import Derived.Laws.AppendOwn
namespace Go.Proofs.Ytdmohidkighajaa
open Go.RowKit
set_option linter.unusedVariables false
set_option linter.unusedSimpArgs false

/-- The frame of a part. -/
def Fr.of (f : Fr) (v : List UInt8) (n : Int) (i : Nat) : Fr := { f with kind := 4, part := i, parts := n, bytes := ofL (chunk v i) }
/-- A value's frames. -/
def splitL (f : Fr) (v : List UInt8) : List Fr := (List.range (nParts v.length).toNat).map (f.of v (nParts v.length))

/-- The cells of frames. -/
def frCells (l : List Fr) : List Value := l.flatMap fun f => (frV f).toList
theorem frCells_snoc (l : List Fr) (f : Fr) : frCells (l ++ [f]) = frCells l ++ (frV f).toList := by simp [frCells]
theorem frV_len (f : Fr) : (frV f).toList.length = 19 := rfl
theorem frV_one (f : Fr) : ∀ u ∈ (frV f).toList, u.oneCell' = true := by
  intro u hu
  simp [frV] at hu
  rcases hu with h | h | h | h | h | h | h | h | h | h | h | h | h | h | h | h | h | h | h <;> subst h <;> rfl

def zFr : Fr := ⟨0, 0, 0, 0, 0, 0, 0, 0, 0, 0, 0, 0, false, 0, 0, 0, 0, 0, ⟨#[]⟩⟩
theorem infoFr : (Try.prog.info? 36).map (fun i => (i.zero, i.size, i.bytes)) = some (some (.agg (frV zFr)), 19, 64) := by kernel_rfl

/-- The box of the loop's frame. -/
def boxAt (f : Fr) (v : List UInt8) (n : Int) : Nat → Fr
  | 0 => f
  | k + 1 => f.of v n k

/-- A slice literal of one struct. -/
theorem wpList_row1 {P : Program} {ops : Array Oper} {rest : List Oper} {o : Oper} {a : Act} {w : World} {Q : Exit → Act → World → Prop} (hg : o.guard = none) (t e : TypeId) (x : Operand) (ho : o.op = .buildSlice t 1 #[(0, x)])
    (cs zs : Array Value) (n b : Nat) (hx : a.eval x = .agg cs) (hu : P.underlying t = some (.slice e)) (hi : (P.info? e).map (fun i => (i.zero, i.size, i.bytes)) = some (some (.agg zs), n, b)) (hn : cs.size = n) (h0 : 0 < n) (h1 : n ≤ 1000) (hz : zs.size = n)
    (h : wpList P ops Q rest (a.put o.dst (.slice (some ⟨w.heap.size, 0, none⟩) 1 1)) (w.alloc (.cells cs e))) : wpList P ops Q (o :: rest) a w := by
  obtain ⟨ie, hie, hz0, hz1, hz2⟩ := info_parts hi
  refine wpList_buildSlice hg t e 1 _ ho cs ie (.agg zs) hu hie hz0 (by omega) (by omega) ?_ h
  have hf := Great.fill_whole h0 [Value.agg cs] ((Array.range (1 * ie.size)).map ((Value.agg zs).cells[· % (Value.agg zs).cells.size]!)) (by simpa [Value.cells] using hn) (by simp [hz1])
  rw [hz1] at hf ⊢
  simpa [hx, Value.cells] using hf

theorem new_cells (w : World) (cs : Array Value) (t : TypeId) (j : Nat) (u : Value) (h : cs.toList[j]? = some u) : (w.alloc (.cells cs t)).cell? ((⟨w.heap.size, 0, none⟩ : Addr).add j) = some u := by
  have e : ((⟨w.heap.size, 0, none⟩ : Addr).add j) = ⟨w.heap.size, j, none⟩ := by
    unfold Addr.add
    split <;> simp_all
  rw [e, blk_cell (heap_alloc_new w _) j, ← Array.getElem?_toList, h]
theorem grown_below {B : Nat} {a w w' : World} {v : Value} (hb : Below B a w) (hg : w.grownBy w' v.ownBlock) (hv : ∀ k, v.ownBlock = some k → B ≤ k) (hs : B ≤ w.heap.size) : Below B a w' :=
  hb.trans ⟨hg.os, hg.tape, hg.output, hg.size, fun k hk => hg.block k (by omega) (fun e => by have := hv k e.symm; omega)⟩
theorem owns_kept {w w' : World} {base e size : Nat} {v : Value} {n : Nat} {xs : List Value} (h : w.ownsRow base e size v n xs) (ho : ∀ k, base ≤ k → k < w.heap.size → w'.heap[k]? = w.heap[k]?) : w'.ownsRow base e size v n xs := by
  refine ⟨h.1, h.2.imp id ?_⟩
  rintro ⟨g, cap, cur, h1, h2, h3, h4⟩
  exact ⟨g, cap, cur, h1, h2, (ho g h2 (Array.getElem?_eq_some_iff.1 h3).1).trans h3, h4⟩
theorem owns_mono {w : World} {base base' e size : Nat} {v : Value} {n : Nat} {xs : List Value} (h : w.ownsRow base e size v n xs) (hb : base' ≤ base) : w.ownsRow base' e size v n xs := by
  refine ⟨h.1, h.2.imp id ?_⟩
  rintro ⟨g, cap, cur, h1, h2, h3⟩
  exact ⟨g, cap, cur, h1, Nat.le_trans hb h2, h3⟩

/-- The four stores of a round. -/
theorem split_sets {w wr : World} {b : Nat} {G : Fr} {x : Value} {n : Nat} {xs : List Value} (k m : Int) (s : ByteArray)
    (hb : wr.heap[b]? = some (.cells (frV G) 36 (0, 0))) (hown : wr.ownsRow (b + 1) 36 19 x n xs) (hbw : Below b w wr) :
    ∃ ws, ws = (((wr.setCell ⟨b, 0, none⟩ (.int .i64 4)).setCell ⟨b, 16, none⟩ (.int .u8 k)).setCell ⟨b, 17, none⟩ (.int .u8 m)).setCell ⟨b, 18, none⟩ (.string s) ∧
      ws.heap[b]? = some (.cells (frV { G with kind := 4, part := k, parts := m, bytes := s }) 36 (0, 0)) ∧ ws.ownsRow (b + 1) 36 19 x n xs ∧ Below b w ws := by
  refine ⟨_, rfl, set_heap (set_heap (set_heap (set_heap hb 0 (.int .i64 4)) 16 (.int .u8 k)) 17 (.int .u8 m)) 18 (.string s), owns_kept hown fun i hi hl => ?_, ?_⟩
  · rw [set_other _ _ (by omega), set_other _ _ (by omega), set_other _ _ (by omega), set_other _ _ (by omega)]
  · exact ((((hbw.setCell (p := ⟨b, 0, none⟩) (Nat.le_refl _) _).setCell (p := ⟨b, 16, none⟩) (Nat.le_refl _) _).setCell (p := ⟨b, 17, none⟩) (Nat.le_refl _) _).setCell (p := ⟨b, 18, none⟩) (Nat.le_refl _) _)

end Go.Proofs.Ytdmohidkighajaa
