/- The walk of Split: a value's frames. -/
import Derived.Test.YtoekemceminciaaGr
import Derived.Deep.DeepCutAuto
import Derived.Great.BuildSlice
import Derived.Laws.AppendOwn
namespace Go.Proofs.Ytoekemceminciaa
open Go.RowKit
set_option linter.unusedVariables false
set_option linter.unusedSimpArgs false

/-- The frame of a part. -/
def Fr.of (f : Fr) (v : List UInt8) (n : Int) (i : Nat) : Fr := { f with kind := 4, part := i, parts := n, bytes := ofL (chunk v i) }
/-- A value's frames. -/
def splitL (f : Fr) (v : List UInt8) : List Fr := (List.range (nParts v.length).toNat).map (f.of v (nParts v.length))

/-- The cells of frames. -/
def frCells (l : List Fr) : List Value := l.flatMap fun f => (frV f).toList
theorem frCells_snoc (l : List Fr) (f : Fr) : frCells (l ++ [f]) = frCells l ++ (frV f).toList := by simp [frCells]
theorem frV_len (f : Fr) : (frV f).toList.length = 19 := rfl
theorem frV_one (f : Fr) : ∀ u ∈ (frV f).toList, u.oneCell' = true := by
  intro u hu
  simp [frV] at hu
  rcases hu with h | h | h | h | h | h | h | h | h | h | h | h | h | h | h | h | h | h | h <;> subst h <;> rfl

def zFr : Fr := ⟨0, 0, 0, 0, 0, 0, 0, 0, 0, 0, 0, 0, false, 0, 0, 0, 0, 0, ⟨#[]⟩⟩
theorem infoFr : (Try.prog.info? 52).map (fun i => (i.zero, i.size, i.bytes)) = some (some (.agg (frV zFr)), 19, 64) := by kernel_rfl

/-- The box of the loop's frame. -/
def boxAt (f : Fr) (v : List UInt8) (n : Int) : Nat → Fr
  | 0 => f
  | k + 1 => f.of v n k

/-- A slice literal of one struct. -/
theorem wpList_row1 {P : Program} {ops : Array Oper} {rest : List Oper} {o : Oper} {a : Act} {w : World} {Q : Exit → Act → World → Prop} (hg : o.guard = none) (t e : TypeId) (x : Operand) (ho : o.op = .buildSlice t 1 #[(0, x)])
    (cs zs : Array Value) (n b : Nat) (hx : a.eval x = .agg cs) (hu : P.underlying t = some (.slice e)) (hi : (P.info? e).map (fun i => (i.zero, i.size, i.bytes)) = some (some (.agg zs), n, b)) (hn : cs.size = n) (h0 : 0 < n) (h1 : n ≤ 1000) (hz : zs.size = n)
    (h : wpList P ops Q rest (a.put o.dst (.slice (some ⟨w.heap.size, 0, none⟩) 1 1)) (w.alloc (.cells cs e))) : wpList P ops Q (o :: rest) a w := by
  obtain ⟨ie, hie, hz0, hz1, hz2⟩ := info_parts hi
  refine wpList_buildSlice hg t e 1 _ ho cs ie (.agg zs) hu hie hz0 (by omega) (by omega) ?_ h
  have hf := Great.fill_whole h0 [Value.agg cs] ((Array.range (1 * ie.size)).map ((Value.agg zs).cells[· % (Value.agg zs).cells.size]!)) (by simpa [Value.cells] using hn) (by simp [hz1])
  rw [hz1] at hf ⊢
  simpa [hx, Value.cells] using hf

theorem new_cells (w : World) (cs : Array Value) (t : TypeId) (j : Nat) (u : Value) (h : cs.toList[j]? = some u) : (w.alloc (.cells cs t)).cell? ((⟨w.heap.size, 0, none⟩ : Addr).add j) = some u := by
  have e : ((⟨w.heap.size, 0, none⟩ : Addr).add j) = ⟨w.heap.size, j, none⟩ := by
    unfold Addr.add
    split <;> simp_all
  rw [e, blk_cell (heap_alloc_new w _) j, ← Array.getElem?_toList, h]
theorem grown_below {B : Nat} {a w w' : World} {v : Value} (hb : Below B a w) (hg : w.grownBy w' v.ownBlock) (hv : ∀ k, v.ownBlock = some k → B ≤ k) (hs : B ≤ w.heap.size) : Below B a w' :=
  hb.trans ⟨hg.os, hg.tape, hg.output, hg.size, fun k hk => hg.block k (by omega) (fun e => by have := hv k e.symm; omega)⟩
theorem owns_kept {w w' : World} {base e size : Nat} {v : Value} {n : Nat} {xs : List Value} (h : w.ownsRow base e size v n xs) (ho : ∀ k, base ≤ k → k < w.heap.size → w'.heap[k]? = w.heap[k]?) : w'.ownsRow base e size v n xs := by
  refine ⟨h.1, h.2.imp id ?_⟩
  rintro ⟨g, cap, cur, h1, h2, h3, h4⟩
  exact ⟨g, cap, cur, h1, h2, (ho g h2 (Array.getElem?_eq_some_iff.1 h3).1).trans h3, h4⟩
theorem owns_mono {w : World} {base base' e size : Nat} {v : Value} {n : Nat} {xs : List Value} (h : w.ownsRow base e size v n xs) (hb : base' ≤ base) : w.ownsRow base' e size v n xs := by
  refine ⟨h.1, h.2.imp id ?_⟩
  rintro ⟨g, cap, cur, h1, h2, h3⟩
  exact ⟨g, cap, cur, h1, Nat.le_trans hb h2, h3⟩

/-- The four stores of a round. -/
theorem split_sets {w wr : World} {b : Nat} {G : Fr} {x : Value} {n : Nat} {xs : List Value} (k m : Int) (s : ByteArray)
    (hb : wr.heap[b]? = some (.cells (frV G) 52 (0, 0))) (hown : wr.ownsRow (b + 1) 52 19 x n xs) (hbw : Below b w wr) :
    ∃ ws, ws = (((wr.setCell ⟨b, 0, none⟩ (.int .i64 4)).setCell ⟨b, 16, none⟩ (.int .u8 k)).setCell ⟨b, 17, none⟩ (.int .u8 m)).setCell ⟨b, 18, none⟩ (.string s) ∧
      ws.heap[b]? = some (.cells (frV { G with kind := 4, part := k, parts := m, bytes := s }) 52 (0, 0)) ∧ ws.ownsRow (b + 1) 52 19 x n xs ∧ Below b w ws := by
  refine ⟨_, rfl, set_heap (set_heap (set_heap (set_heap hb 0 (.int .i64 4)) 16 (.int .u8 k)) 17 (.int .u8 m)) 18 (.string s), owns_kept hown fun i hi hl => ?_, ?_⟩
  · rw [set_other _ _ (by omega), set_other _ _ (by omega), set_other _ _ (by omega), set_other _ _ (by omega)]
  · exact ((((hbw.setCell (p := ⟨b, 0, none⟩) (Nat.le_refl _) _).setCell (p := ⟨b, 16, none⟩) (Nat.le_refl _) _).setCell (p := ⟨b, 17, none⟩) (Nat.le_refl _) _).setCell (p := ⟨b, 18, none⟩) (Nat.le_refl _) _)

set_option maxHeartbeats 1000000 in
set_option maxRecDepth 20000 in
theorem split_any (f : Fr) (v : ByteArray) (w : World) :
    Calls Try.prog 24 #[.agg (frV f), .string v] w fun e w' => ∃ x, e = .returned x ∧ w'.ownsRow (w.heap.size + 1) 52 19 x (splitL f v.data.toList).length (frCells (splitL f v.data.toList)) ∧ Below w.heap.size w w' := by
  obtain ⟨i0, hi, hz0, hz1, hz2⟩ := info_parts infoFr
  obtain ⟨n, hn, hn0⟩ : ∃ n : Nat, nParts v.size = n ∧ n ≤ 4 := ⟨(nParts v.size).toNat, by have := nParts_le v.size; omega, by have := nParts_le v.size; omega⟩
  have HN := hide hn
  have B0 := hide (fbox w f)
  clear hn
  go_enter Try.func24, Try.ntmps24
  go_wp2_with (go_at_call 37; refine (parts_any _ _).mono ?_; rw [HN.out]; rintro e w' ⟨rfl, rfl⟩)
  have b0 := B0.out
  clear B0
  generalize w.alloc (.cells (frV f) 52) = w1 at b0 ⊢
  have hp : w.heap.size ≤ w.heap.size := Nat.le_refl _
  have HB := hide b0
  clear b0
  go_loopw [5, 12] (fun x i wr => ∃ k : Nat, i = .int .i64 k ∧ k ≤ n ∧ wr.ownsRow (w.heap.size + 1) 52 19 x k (frCells ((List.range k).map (f.of v.data.toList n))) ∧
      wr.heap[w.heap.size]? = some (.cells (frV (boxAt f v.data.toList n k)) 52 (0, 0)) ∧ Below w.heap.size w wr ∧ w.heap.size < wr.heap.size) (fun _ i _ => n - (intOf i).toNat)
  case atStart =>
    have b0 := HB.out
    refine ⟨0, rfl, Nat.zero_le _, World.ownsRow_nil _ _ _ _, ?_, ?_, ?_⟩
    · exact b0.blk
    · exact b0.bw
    · exact (Array.getElem?_eq_some_iff.1 b0.blk).1
  case round =>
    obtain ⟨k, rfl, hk, hown, hb, hbw, hsz⟩ := hrel
    by_cases hlt : k < n
    · obtain ⟨G, hG, hGe⟩ : ∃ G, boxAt f v.data.toList n k = G ∧ f.of v.data.toList n k = { G with kind := 4, part := k, parts := n, bytes := ofL (chunk v.data.toList k) } := ⟨_, rfl, by cases k <;> rfl⟩
      rw [hG] at hb
      have e0 : wr.cell? ⟨w.heap.size, 0, none⟩ = some (.int .i64 G.kind) := blk_cell hb 0
      have e1 : wr.cell? ⟨w.heap.size, 16, none⟩ = some (.int .u8 G.part) := blk_cell hb 16
      have e2 : wr.cell? ⟨w.heap.size, 17, none⟩ = some (.int .u8 G.parts) := blk_cell hb 17
      have e3 : wr.cell? ⟨w.heap.size, 18, none⟩ = some (.string G.bytes) := blk_cell hb 18
      have f0 := blk_frozen hb 0
      have f1 := blk_frozen hb 16
      have f2 := blk_frozen hb 17
      have f3 := blk_frozen hb 18
      have HG := hide hGe
      have hcutk : (k : Int) < nParts v.size := by rw [HN.out]; omega
      have HBK := hide hb
      have HOWN := hide hown
      have HBW := hide hbw
      clear hb hG hGe hown hbw
      go_wp2_with fail
      refine (cut_any v k hcutk wr).mono ?_
      rintro e w' ⟨rfl, rfl⟩
      go_upto_region 7 with fail
      obtain ⟨ws, hws, hb, hown, hbw⟩ := split_sets (k : Int) (n : Int) (ofL (chunk v.data.toList k)) HBK.out HOWN.out HBW.out
      have hsz' : w.heap.size < ws.heap.size := (Array.getElem?_eq_some_iff.1 hb).1
      rw [← hws]
      have HWS := hide hws
      clear hws
      go_wp2_with (first
        | (refine wpList_load_row rfl 52 _ rfl _ rfl 52 _ (0, 0) _ hb Try.underlying52 rfl (by kernel_rfl) ?_)
        | (refine wpList_row1 rfl 53 52 _ rfl _ _ 19 64 rfl Try.underlying53 infoFr rfl (by decide) (by decide) rfl ?_)
        | (at_builtin; refine wpList_append_own _ rfl _ _ 53 rfl (w.heap.size + 1) 52 i0 (.agg (frV zFr)) 19 64 Try.underlying53 hi hz0 hz1 hz2 rfl (by decide) _ k _ rfl (hown.alloc _) ⟨ws.heap.size, 0, none⟩ 1 1 _ rfl rfl (new_cells _ _ _) (frV_one _) (by unfold maxLen; omega) (by omega) (by simp; omega) ?_; intro v' w3 hown' hgrow3 hnil3))
      go_roundw
      case rel =>
        have hl : f.of v.data.toList (↑n) k = { G with kind := 4, part := (k : Int), parts := (n : Int), bytes := ofL (chunk v.data.toList k) } := HG.out
        have hlt := hown.lt
        refine ⟨k + 1, by go_num, by omega, ?_, ?_, grown_below (hbw.alloc (Below.size hbw |> fun h => by omega) _) hgrow3 (fun i hi => by have := hlt i hi; omega) (by simp; omega), ?_⟩
        · rw [List.range_succ, List.map_append, List.map_cons, List.map_nil, frCells_snoc, hl]
          exact hown'
        · show w3.heap[w.heap.size]? = some (.cells (frV (f.of v.data.toList (↑n) k)) 52 (0, 0))
          rw [hl, hgrow3.block _ (by simp; omega) (fun e => by have := hlt _ e.symm; omega), old_alloc hb _]
        · have := hgrow3.size
          simp at this
          omega
      case measure => simp [intOf]; omega
    · have hkn : k = n := by omega
      subst hkn
      go_wp2_with fail
      go_ret
      refine ⟨_, rfl, ?_, hbw⟩
      have e : splitL f v.data.toList = (List.range k).map (f.of v.data.toList k) := by
        unfold splitL
        rw [size_data, HN.out]
        rfl
      rw [e, List.length_map, List.length_range]
      exact hown
end Go.Proofs.Ytoekemceminciaa
