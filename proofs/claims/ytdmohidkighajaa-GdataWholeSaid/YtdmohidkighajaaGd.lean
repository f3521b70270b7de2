/- The walks of package gdata: a publisher. -/
import Derived.Test.YtdmohidkighajaaRq
import Derived.Deep.WholeRow
import Derived.Test.YtdmohidkighajaaRh
namespace Go.Proofs.Ytdmohidkighajaa
open Go.RowKit
set_option linter.unusedVariables false
set_option linter.unusedSimpArgs false

theorem wpList_store_new {P : Program} {ops : Array Oper} {rest : List Oper} {o : Oper} {a : Act} {Q : Exit → Act → World → Prop} (hgd : o.guard = none) (ty : TypeId) (x y : Operand) (ho : o.op = .store ty x y) (W : World) (t : TypeId) (zs cs : Array Value)
    (hx : a.eval x = .pointer (some ⟨W.heap.size, 0, none⟩)) (hy : a.eval y = .agg cs) (hi : (P.info? ty).map (·.size) = some cs.size) (hs : zs.size = cs.size) (h1 : ∀ v ∈ cs.toList, v.oneCell' = true)
    (h : wpList P ops Q rest (a.put o.dst undef) (W.alloc (.cells cs t))) : wpList P ops Q (o :: rest) a (W.alloc (.cells zs t)) :=
  wpList_store_row hgd ty x y ho W.heap.size cs hx hy t zs (heap_alloc_new W _) hi hs (by rw [Array.all_eq_true_iff_forall_mem]; exact fun v hv => h1 v (by simpa using hv)) (by rw [World.setRow_alloc_new]; exact h)

theorem results_cell_tmp {P : Program} {fn : Func} {w : World} {tmps : Array Value} {c t b : Nat} {T : TypeId} {cs : List Value} {d : TypeDesc} (hr : fn.results = #[.cell c T, .tmp t]) (hc : tmps.getD c undef = .pointer (some ⟨b, 0, none⟩)) (hl : w.rangeAt b 0 cs)
    (hu : P.underlying T = some d) (hd : d.isRow = true) (hi : (P.info? T).map (·.size) = some cs.length) : (results fn tmps).run P w = .ok (.tuple #[.agg cs.toArray, tmps.getD t undef]) w := by
  have hload := run_loadVar_mid (P := P) w b 0 T cs d hl hu hd hi
  unfold results
  simp only [hr]
  have hc' : tmps[c]?.getD undef = .pointer (some ⟨b, 0, none⟩) := by simpa using hc
  simp [hc', asAddr, hload]
theorem range_blk {w : World} {b : Nat} {cs : Array Value} {T : TypeId} {m} (h : w.heap[b]? = some (.cells cs T m)) : w.rangeAt b 0 cs.toList := fun j v hj => by
  rw [Nat.zero_add, blk_cell h j, ← Array.getElem?_toList]
  exact hj

theorem BS.alloc_drew (w : World) (o : Obj) : BS w (w.alloc o).drew := BS.of (((Below.refl _ _).alloc (Nat.le_refl _) _).drew)
/-- A publisher's state. -/
structure Pb where
  size : Int
  last : ByteArray
  li : Int
  ls : Int
  way : ByteArray
  wi : Int
  ws : Int
  next : Int
  left : Int
def pbV (P : Pb) : Array Value := #[.int .i64 P.size, .string P.last, .int .u16 P.li, .int .u32 P.ls, .string P.way, .int .u16 P.wi, .int .u32 P.ws, .int .i64 P.next, .int .i64 P.left]
abbrev PAt (w : World) (p : Nat) (P : Pb) : Prop := w.heap[p]? = some (.cells (pbV P) 80 (0, 0))
def newPb (n inc : Int) : Pb := ⟨n, ⟨#[]⟩, inc, 0, ⟨#[]⟩, 0, 0, 0, 0⟩

/-- A struct in a block of its own: other blocks' turn leaves it. -/
theorem blk_below {w w' : World} {p : Nat} {o : Obj} (h : w.heap[p]? = some o) (b : Below w.heap.size w w') : w'.heap[p]? = some o := (b.block p (Array.getElem?_eq_some_iff.1 h).1).trans h
theorem blk_only {w w' : World} {p g k : Nat} {o : Obj} (h : w.heap[p]? = some o) (b : Only g k w w') (h1 : p ≠ g) (h2 : p ≠ k) : w'.heap[p]? = some o := (b.block p (Array.getElem?_eq_some_iff.1 h).1 h1 h2).trans h
theorem blk_lt {w : World} {p : Nat} {o : Obj} (h : w.heap[p]? = some o) : p < w.heap.size := (Array.getElem?_eq_some_iff.1 h).1
theorem Below.only {g h : Nat} {w w' : World} (b : Below w.heap.size w w') : Only g h w w' := ⟨b.os, b.tape, b.output, b.size, fun k hk _ _ => b.block k hk⟩

set_option maxHeartbeats 400000 in
theorem pnew_no (n inc : Int) (w : World) (hn : ¬ (1 ≤ n ∧ n ≤ 64)) :
    Calls Try.prog 8 #[.int .i64 n, .int .u16 inc] w fun e w' => e = .returned (.pointer none) ∧ w = w' := by
  have HN := hide (nParts_no hn)
  clear hn
  go_enter Try.func8, Try.ntmps8
  go_wp2_with (go_at_call 26; refine (parts_any n _).mono ?_; rw [HN.out]; rintro e w' ⟨rfl, rfl⟩)
  go_ret
  exact ⟨rfl, rfl⟩

set_option maxHeartbeats 400000 in
theorem pnew_yes (n inc : Int) (w : World) (h1 : 1 ≤ n) (h2 : n ≤ 64) :
    Calls Try.prog 8 #[.int .i64 n, .int .u16 inc] w fun e w' => e = .returned (.pointer (some ⟨w.heap.size, 0, none⟩)) ∧ PAt w' w.heap.size (newPb n inc) ∧ Below w.heap.size w w' := by
  have h0 := nParts_yes h1 h2
  obtain ⟨q, hq, hq1⟩ : ∃ q : Int, nParts n = q ∧ 1 ≤ q := ⟨_, rfl, by omega⟩
  have hq2 : (q == 0) = false := by simp; omega
  have HQ := hide hq
  clear h0 hq
  go_enter Try.func8, Try.ntmps8
  go_wp2_with (first
    | (go_at_call 26; refine (parts_any n _).mono ?_; rw [HQ.out]; rintro e w' ⟨rfl, rfl⟩)
    | (refine wpList_buildTo rfl 34 _ rfl _ rfl #[.int .u16 inc, .int .u32 0] (by kernel_rfl) ?_)
    | (refine wpList_buildTo rfl 78 _ rfl _ rfl #[.string ⟨#[]⟩, .int .u16 inc, .int .u32 0] (by kernel_rfl) ?_)
    | (refine wpList_buildTo rfl 80 _ rfl _ rfl (pbV (newPb n inc)) (by kernel_rfl) ?_))
  go_ret
  exact ⟨rfl, heap_alloc_new w _, (Below.refl _ _).alloc (Nat.le_refl _) _⟩

set_option maxHeartbeats 400000 in
theorem pany_nil (w : World) : Calls Try.prog 29 #[.pointer none] w fun e w' => e = .returned (.bool false) ∧ w = w' := by
  go_enter Try.func29, Try.ntmps29
  go_wp2
  go_ret
  exact ⟨rfl, rfl⟩
set_option maxHeartbeats 400000 in
theorem pany_any {w : World} {p : Nat} {P : Pb} (k : PAt w p P) : Calls Try.prog 29 #[.pointer (some ⟨p, 0, none⟩)] w fun e w' => e = .returned (.bool (decide (0 < P.ls))) ∧ w = w' := by
  have c3 : w.cell? ⟨p, 3, none⟩ = some (.int .u32 P.ls) := blk_cell k 3
  clear k
  go_enter Try.func29, Try.ntmps29
  go_wp2
  go_ret
  exact ⟨rfl, rfl⟩

set_option maxHeartbeats 400000 in
theorem pleft_nil (w : World) : Calls Try.prog 14 #[.pointer none] w fun e w' => e = .returned (.int .i64 0) ∧ w = w' := by
  go_enter Try.func14, Try.ntmps14
  go_wp2
  go_ret
  exact ⟨rfl, rfl⟩
set_option maxHeartbeats 400000 in
theorem pleft_any {w : World} {p : Nat} {P : Pb} (k : PAt w p P) : Calls Try.prog 14 #[.pointer (some ⟨p, 0, none⟩)] w fun e w' => e = .returned (.int .i64 P.left) ∧ w = w' := by
  have c8 : w.cell? ⟨p, 8, none⟩ = some (.int .i64 P.left) := blk_cell k 8
  clear k
  go_enter Try.func14, Try.ntmps14
  go_wp2
  go_ret
  exact ⟨rfl, rfl⟩

/-- Commit. -/
def Pb.commit (P : Pb) (v : ByteArray) : Int × Pb :=
  if (v.size : Int) ≠ P.size then (10, P) else if P.ls = 4294967295 then (13, P) else (0, { P with last := v, ls := P.ls + 1 })

set_option maxHeartbeats 400000 in
theorem pcommit_nil (v : ByteArray) (w : World) : Calls Try.prog 13 #[.pointer none, .string v] w fun e w' => e = .returned (.int .i64 1) ∧ w = w' := by
  go_enter Try.func13, Try.ntmps13
  go_wp2
  go_ret
  exact ⟨rfl, rfl⟩
set_option maxHeartbeats 1000000 in
theorem pcommit_any {w : World} {p : Nat} {P : Pb} (k : PAt w p P) (h0 : 0 ≤ P.ls) (h1 : P.ls ≤ 4294967295) (v : ByteArray) :
    Calls Try.prog 13 #[.pointer (some ⟨p, 0, none⟩), .string v] w fun e w' => e = .returned (.int .i64 (P.commit v).1) ∧ PAt w' p (P.commit v).2 ∧ Only p p w w' := by
  have c0 : w.cell? ⟨p, 0, none⟩ = some (.int .i64 P.size) := blk_cell k 0
  have c1 : w.cell? ⟨p, 1, none⟩ = some (.string P.last) := blk_cell k 1
  have c3 : w.cell? ⟨p, 3, none⟩ = some (.int .u32 P.ls) := blk_cell k 3
  have f1 := blk_frozen k 1
  have f3 := blk_frozen k 3
  have K := hide k
  clear k
  unfold Pb.commit
  by_cases e1 : (v.size : Int) ≠ P.size
  · rw [if_pos e1]
    have e2 : ((v.size : Int) != P.size) = true := by simpa using e1
    go_enter Try.func13, Try.ntmps13
    go_wp2
    go_ret
    exact ⟨rfl, K.out, Only.refl _ _ _⟩
  · rw [if_neg e1]
    have e2 : ((v.size : Int) != P.size) = false := by simpa using e1
    by_cases e3 : P.ls = 4294967295
    · rw [if_pos e3]
      have e4 : (P.ls == 4294967295) = true := by simpa using e3
      have E3 := hide e3
      clear e1 e3
      go_enter Try.func13, Try.ntmps13
      go_wp2
      go_ret
      exact ⟨rfl, K.out, Only.refl _ _ _⟩
    · rw [if_neg e3]
      have e4 : (P.ls == 4294967295) = false := by simpa using e3
      have e5 : P.ls + 1 ≤ 4294967295 := by omega
      clear e1 e3
      go_enter Try.func13, Try.ntmps13
      go_wp2
      go_ret
      exact ⟨rfl, set_heap (set_heap K.out 1 (.string v)) 3 (.int .u32 (P.ls + 1)), ((Only.refl _ _ _).set p 1 _ (.inl rfl)).set p 3 _ (.inl rfl)⟩

set_option maxHeartbeats 1000000 in
theorem plast_any {w : World} {p : Nat} {P : Pb} (k : PAt w p P) :
    Calls Try.prog 22 #[.pointer (some ⟨p, 0, none⟩)] w fun e w' => e = .returned (if 0 < P.ls then .tuple #[.string P.last, .agg #[.int .u16 P.li, .int .u32 P.ls], .bool true] else .tuple #[.string ⟨#[]⟩, .agg #[.int .u16 0, .int .u32 0], .bool false]) ∧ Below w.heap.size w w' := by
  have hp := blk_lt k
  have c1 : w.cell? ⟨p, 1, none⟩ = some (.string P.last) := blk_cell k 1
  have c2 : w.cell? ⟨p, 2, none⟩ = some (.int .u16 P.li) := blk_cell k 2
  have c3 : w.cell? ⟨p, 3, none⟩ = some (.int .u32 P.ls) := blk_cell k 3
  have K := hide k
  clear k
  by_cases h : 0 < P.ls
  · rw [if_pos h]
    go_enter Try.func22, Try.ntmps22
    go_wp2_with (go_at_call 29; refine (pany_any (p := p) (P := P) (blk_below K.out (by first | exact (Below.refl _ _).alloc (Nat.le_refl _) _))).mono ?_; rintro e w' ⟨rfl, rfl⟩)
    go_region
    go_wp2
    go_returns
    exact ⟨rfl, ((Below.refl _ _).alloc (Nat.le_refl _) _).drew⟩
  · rw [if_neg h]
    have h2 : decide (0 < P.ls) = false := by simpa using h
    go_enter Try.func22, Try.ntmps22
    go_wp2_with (go_at_call 29; refine (pany_any (p := p) (P := P) (blk_below K.out (by first | exact (Below.refl _ _).alloc (Nat.le_refl _) _))).mono ?_; rintro e w' ⟨rfl, rfl⟩)
    go_returns
    exact ⟨rfl, (Below.refl _ _).alloc (Nat.le_refl _) _⟩

/-- The frame that is next of a value. -/
def fV (i s : Int) : Fr := { zFr with vi := i, vs := s }
def Pb.begun (P : Pb) : Pb := if P.left = 0 then { P with way := P.last, wi := P.li, ws := P.ls, next := 0, left := nParts P.size } else P
def Pb.step (P : Pb) : Pb := { P.begun with next := P.begun.next + 1, left := P.begun.left - 1 }
def Pb.frame (P : Pb) : Fr := (fV P.begun.wi P.begun.ws).of P.begun.way.data.toList (nParts P.size) P.begun.next.toNat
/-- A publisher that works. -/
structure Pb.Ok (P : Pb) : Prop where
  z0 : 1 ≤ P.size
  z1 : P.size ≤ 64
  lsz : 0 < P.ls → (P.last.size : Int) = P.size
  li : 0 ≤ P.li ∧ P.li ≤ 65535
  ls : 0 ≤ P.ls ∧ P.ls ≤ 4294967295
  wi : 0 ≤ P.wi ∧ P.wi ≤ 65535
  ws : 0 ≤ P.ws ∧ P.ws ≤ 4294967295
  next : 0 ≤ P.next
  left : 0 ≤ P.left
  sum : P.left ≠ 0 → P.next + P.left = nParts P.size ∧ (P.way.size : Int) = P.size

set_option maxHeartbeats 1000000 in
set_option maxRecDepth 20000 in
theorem pnext_nil (w : World) : Calls Try.prog 11 #[.pointer none] w fun e w' => e = .returned (.tuple #[.agg (frV zFr), .bool false]) ∧ Below w.heap.size w w' := by
  go_enter Try.func11, Try.ntmps11
  go_wp2_with (first
    | (go_at_call 29; refine (pany_nil _).mono ?_; rintro e w' ⟨rfl, rfl⟩)
    | (refine wpList_buildTo rfl 36 _ rfl _ rfl (frV zFr) (by kernel_rfl) ?_)
    | (refine wpList_store_new rfl 36 _ _ rfl w 36 _ (frV zFr) rfl rfl (by kernel_rfl) rfl (frV_one zFr) ?_))
  refine bodyPost_ret (v := .tuple #[.agg (frV zFr), .bool false]) (results_cell_tmp (b := w.heap.size) Try.results11 rfl (range_blk (heap_alloc_new w _)) Try.underlying36 rfl (by kernel_rfl)) rfl ⟨rfl, (Below.refl _ _).alloc (Nat.le_refl _) _⟩

set_option maxHeartbeats 1000000 in
set_option maxRecDepth 20000 in
theorem pnext_no {w : World} {p : Nat} {P : Pb} (k : PAt w p P) (h : P.ls = 0) : Calls Try.prog 11 #[.pointer (some ⟨p, 0, none⟩)] w fun e w' => e = .returned (.tuple #[.agg (frV zFr), .bool false]) ∧ Below w.heap.size w w' := by
  have K := hide k
  have H := hide h
  clear k h
  go_enter Try.func11, Try.ntmps11
  go_wp2_with (first
    | (go_at_call 29; refine (pany_any (p := p) (P := P) (blk_below K.out ((Below.refl _ _).alloc (Nat.le_refl _) _))).mono ?_; rw [H.out]; rintro e w' ⟨rfl, rfl⟩)
    | (refine wpList_buildTo rfl 36 _ rfl _ rfl (frV zFr) (by kernel_rfl) ?_)
    | (refine wpList_store_new rfl 36 _ _ rfl w 36 _ (frV zFr) rfl rfl (by kernel_rfl) rfl (frV_one zFr) ?_))
  refine bodyPost_ret (v := .tuple #[.agg (frV zFr), .bool false]) (results_cell_tmp (b := w.heap.size) Try.results11 rfl (range_blk (heap_alloc_new w _)) Try.underlying36 rfl (by kernel_rfl)) rfl ⟨rfl, (Below.refl _ _).alloc (Nat.le_refl _) _⟩

/-- The numbers of what is next. -/
theorem begun_facts {P : Pb} (ok : P.Ok) (h : 0 < P.ls) : 0 ≤ P.begun.next ∧ P.begun.next < nParts P.size ∧ P.begun.next + P.begun.left = nParts P.size ∧ (P.begun.way.size : Int) = P.size ∧ P.begun.size = P.size ∧ (0 ≤ P.begun.wi ∧ P.begun.wi ≤ 65535) ∧ 0 ≤ P.begun.ws ∧ P.begun.ws ≤ 4294967295 := by
  have hz0 := ok.z0; have hz1 := ok.z1
  have hn := nParts_yes hz0 hz1
  unfold Pb.begun
  split
  · rename_i h0
    exact ⟨Int.le_refl 0, by show (0 : Int) < nParts P.size; omega, by show 0 + nParts P.size = nParts P.size; omega, ok.lsz h, rfl, ok.li, ok.ls⟩
  · rename_i h0
    have := ok.sum h0
    have hl := ok.left
    exact ⟨ok.next, by omega, this.1, this.2, rfl, ok.wi, ok.ws⟩

theorem pb_set (a0 a1 a2 a3 a4 a5 a6 a7 a8 b4 b5 b6 b7 b8 : Value) : ((((((#[a0, a1, a2, a3, a4, a5, a6, a7, a8] : Array Value).setIfInBounds 4 b4).setIfInBounds 5 b5).setIfInBounds 6 b6).setIfInBounds 7 b7).setIfInBounds 8 b8) = #[a0, a1, a2, a3, b4, b5, b6, b7, b8] := rfl
/-- Cells 0 to 3 of block p. -/
abbrev Four (w' : World) (p : Nat) (v0 v1 v2 v3 : Value) : Prop := w'.cell? ⟨p, 0, none⟩ = some v0 ∧ w'.cell? ⟨p, 1, none⟩ = some v1 ∧ w'.cell? ⟨p, 2, none⟩ = some v2 ∧ w'.cell? ⟨p, 3, none⟩ = some v3
theorem four_set {w : World} {p o : Nat} {v0 v1 v2 v3 : Value} (h : Four w p v0 v1 v2 v3) (ho : 4 ≤ o) (u : Value) : Four (w.setCell ⟨p, o, none⟩ u) p v0 v1 v2 v3 := by
  obtain ⟨h0, h1, h2, h3⟩ := h
  have ne : ∀ i, i < 4 → (⟨p, o, none⟩ : Addr) ≠ ⟨p, i, none⟩ := fun i hi e => by have := congrArg Addr.off e; simp only at this; omega
  exact ⟨by rw [World.cell?_setCell_other (h := ne 0 (by decide))]; exact h0, by rw [World.cell?_setCell_other (h := ne 1 (by decide))]; exact h1, by rw [World.cell?_setCell_other (h := ne 2 (by decide))]; exact h2, by rw [World.cell?_setCell_other (h := ne 3 (by decide))]; exact h3⟩
theorem four_drew {w : World} {p : Nat} {v0 v1 v2 v3 : Value} (h : Four w p v0 v1 v2 v3) : Four w.drew p v0 v1 v2 v3 := h
theorem four_undrew {w : World} {p : Nat} {v0 v1 v2 v3 : Value} (h : Four w.drew p v0 v1 v2 v3) : Four w p v0 v1 v2 v3 := h
theorem drew_heap (w : World) : w.drew.heap = w.heap := rfl
theorem begin_world {w w1 : World} {p : Nat} {P : Pb} {o : Obj} (k : PAt w1 p P) (hbx : w1.heap[w.heap.size]? = some o) (o1 : Only p p w w1) (hp : p < w.heap.size) :
    PAt (((((w1.setCell ⟨p, 4, none⟩ (.string P.last)).setCell ⟨p, 5, none⟩ (.int .u16 P.li)).setCell ⟨p, 6, none⟩ (.int .u32 P.ls)).setCell ⟨p, 7, none⟩ (.int .i64 0)).setCell ⟨p, 8, none⟩ (.int .i64 (nParts P.size))).drew p { P with way := P.last, wi := P.li, ws := P.ls, next := 0, left := nParts P.size } ∧
      (((((w1.setCell ⟨p, 4, none⟩ (.string P.last)).setCell ⟨p, 5, none⟩ (.int .u16 P.li)).setCell ⟨p, 6, none⟩ (.int .u32 P.ls)).setCell ⟨p, 7, none⟩ (.int .i64 0)).setCell ⟨p, 8, none⟩ (.int .i64 (nParts P.size))).drew.heap[w.heap.size]? = some o ∧
      Only p p w (((((w1.setCell ⟨p, 4, none⟩ (.string P.last)).setCell ⟨p, 5, none⟩ (.int .u16 P.li)).setCell ⟨p, 6, none⟩ (.int .u32 P.ls)).setCell ⟨p, 7, none⟩ (.int .i64 0)).setCell ⟨p, 8, none⟩ (.int .i64 (nParts P.size))).drew := by
  have s := set_heap (set_heap (set_heap (set_heap (set_heap (show w1.heap[p]? = some (.cells #[.int .i64 P.size, .string P.last, .int .u16 P.li, .int .u32 P.ls, .string P.way, .int .u16 P.wi, .int .u32 P.ws, .int .i64 P.next, .int .i64 P.left] 80 (0, 0)) from k) 4 (.string P.last)) 5 (.int .u16 P.li)) 6 (.int .u32 P.ls)) 7 (.int .i64 0)) 8 (.int .i64 (nParts P.size))
  rw [pb_set] at s
  refine ⟨by show (World.drew _).heap[p]? = _; rw [drew_heap]; exact s, ?_, (((((o1.set p 4 _ (.inl rfl)).set p 5 _ (.inl rfl)).set p 6 _ (.inl rfl)).set p 7 _ (.inl rfl)).set p 8 _ (.inl rfl)).drewN 1⟩
  rw [drew_heap, set_other _ _ (by omega), set_other _ _ (by omega), set_other _ _ (by omega), set_other _ _ (by omega), set_other _ _ (by omega)]
  exact hbx

set_option maxHeartbeats 2000000 in
set_option maxRecDepth 20000 in
theorem pnext_yes {w : World} {p : Nat} {P : Pb} (k : PAt w p P) (ok : P.Ok) (h : 0 < P.ls) :
    Calls Try.prog 11 #[.pointer (some ⟨p, 0, none⟩)] w fun e w' => e = .returned (.tuple #[.agg (frV P.frame), .bool true]) ∧ PAt w' p P.step ∧ Only p p w w' := by
  have hb := begun_facts ok h
  have HB := hide hb
  have hpl := blk_lt k
  have hd : decide (0 < P.ls) = true := by simpa using h
  have HD := hide hd
  have k1 : PAt (w.alloc (.cells (frV zFr) 36)) p P := blk_below k ((Below.refl _ _).alloc (Nat.le_refl _) _)
  have K1 := hide k1
  have OK := hide ok
  have z0 := ok.z0; have z1 := ok.z1
  clear k k1 ok hb hd h
  go_enter Try.func11, Try.ntmps11
  go_upto_region 3 with (go_at_call 29; refine (pany_any (p := p) (P := P) K1.out).mono ?_; rw [HD.out]; rintro e w' ⟨rfl, rfl⟩)
  have hbx : (w.alloc (.cells (frV zFr) 36)).heap[w.heap.size]? = some (.cells (frV zFr) 36 (0, 0)) := heap_alloc_new w _
  have o1 : Only p p w (w.alloc (.cells (frV zFr) 36)) := Below.only ((Below.refl _ _).alloc (Nat.le_refl _) _)
  change Code.wp _ _ _ _ (w.alloc (.cells (frV zFr) 36))
  generalize w.alloc (.cells (frV zFr) 36) = w1 at K1 hbx o1 ⊢
  have HBX := hide hbx; have O1 := hide o1
  clear hbx o1
  have c8 : w1.cell? ⟨p, 8, none⟩ = some (.int .i64 P.left) := blk_cell K1.out 8
  go_upto_if 13 with fail
  have c0 : w1.cell? ⟨p, 0, none⟩ = some (.int .i64 P.size) := blk_cell K1.out 0
  have c1 : w1.cell? ⟨p, 1, none⟩ = some (.string P.last) := blk_cell K1.out 1
  have c2 : w1.cell? ⟨p, 2, none⟩ = some (.int .u16 P.li) := blk_cell K1.out 2
  have c3 : w1.cell? ⟨p, 3, none⟩ = some (.int .u32 P.ls) := blk_cell K1.out 3
  have c4 : w1.cell? ⟨p, 4, none⟩ = some (.string P.way) := blk_cell K1.out 4
  have c5 : w1.cell? ⟨p, 5, none⟩ = some (.int .u16 P.wi) := blk_cell K1.out 5
  have c6 : w1.cell? ⟨p, 6, none⟩ = some (.int .u32 P.ws) := blk_cell K1.out 6
  have c7 : w1.cell? ⟨p, 7, none⟩ = some (.int .i64 P.next) := blk_cell K1.out 7
  have f4 := blk_frozen K1.out 4
  have f5 := blk_frozen K1.out 5
  have f6 := blk_frozen K1.out 6
  have f7 := blk_frozen K1.out 7
  have f8 := blk_frozen K1.out 8
  go_cut [] (fun wc => PAt wc p P.begun ∧ wc.heap[w.heap.size]? = some (.cells (frV zFr) 36 (0, 0)) ∧ Only p p w wc)
  case first =>
    by_cases h0 : P.left = 0
    · have h0b : (P.left == 0) = true := by simpa using h0
      have e : P.begun = { P with way := P.last, wi := P.li, ws := P.ls, next := 0, left := nParts P.size } := if_pos h0
      have E := hide e
      clear e h0
      go_wp2_with fail
      go_region_held3 (fun w' => w'.cell? ⟨p, 0, none⟩ = some (.int .i64 P.size) ∧ w'.cell? ⟨p, 1, none⟩ = some (.string P.last) ∧ w'.cell? ⟨p, 2, none⟩ = some (.int .u16 P.li) ∧ w'.cell? ⟨p, 3, none⟩ = some (.int .u32 P.ls)) (first | with_reducible exact four_drew ⟨c0, c1, c2, c3⟩ | with_reducible exact four_drew (four_set (four_set (four_set ⟨c0, c1, c2, c3⟩ (by decide) _) (by decide) _) (by decide) _) | with_reducible exact four_drew (four_set (four_undrew (by assumption)) (by decide) _))
        ((go_at_call 26; (with_reducible refine (parts_any _ _).mono ?_); rintro e w' ⟨rfl, rfl⟩))
      all_goals go_wp2_with fail
      all_goals go_meet
      all_goals
        case rel =>
          rw [E.out]
          exact begin_world K1.out HBX.out O1.out hpl
    · have h0b : (P.left == 0) = false := by simpa using h0
      have e : P.begun = P := if_neg h0
      have E := hide e
      clear e h0
      go_wp2_with fail
      go_meet
      case rel => rw [E.out]; exact ⟨K1.out, HBX.out, O1.out⟩
  case rest =>
    obtain ⟨k2, hbx2, o2⟩ := hcut
    obtain ⟨w2, rfl⟩ : ∃ w2 : World, w2 = wc := ⟨_, rfl⟩
    clear c0 c1 c2 c3 c4 c5 c6 c7 c8 f4 f5 f6 f7 f8 HBX O1 K1
    obtain ⟨Q, hQ⟩ : ∃ Q, P.begun = Q := ⟨_, rfl⟩
    obtain ⟨n, hn, hn4⟩ : ∃ n : Nat, nParts P.size = n ∧ n ≤ 4 := ⟨(nParts P.size).toNat, by have := nParts_le P.size; omega, by have := nParts_le P.size; omega⟩
    have hb := HB.out
    rw [hQ, hn] at hb
    obtain ⟨b1, b2, b3, b4, b5, b6, b7⟩ := hb
    obtain ⟨m, hm⟩ : ∃ m : Nat, Q.next = m := ⟨Q.next.toNat, by omega⟩
    rw [hm] at b1 b2 b3
    have hcut := fun w => cut_any Q.way m (by rw [b4, hn]; exact b2) w
    have hparts := fun w => parts_any Q.size w
    rw [b5, hn] at hparts
    rw [hQ] at k2
    have c0 : w2.cell? ⟨p, 0, none⟩ = some (.int .i64 P.size) := by rw [← b5]; exact blk_cell k2 0
    have c4 : w2.cell? ⟨p, 4, none⟩ = some (.string Q.way) := blk_cell k2 4
    have c5 : w2.cell? ⟨p, 5, none⟩ = some (.int .u16 Q.wi) := blk_cell k2 5
    have c6 : w2.cell? ⟨p, 6, none⟩ = some (.int .u32 Q.ws) := blk_cell k2 6
    have c7 : w2.cell? ⟨p, 7, none⟩ = some (.int .i64 m) := by rw [← hm]; exact blk_cell k2 7
    have K2 := hide k2; have HBX2 := hide hbx2; have O2 := hide o2; have HQ := hide hQ; have HN := hide hn; have HM := hide hm; have HCUT := hide hcut; have HPARTS := hide hparts
    have hp2 := blk_lt k2
    have hx2 := blk_lt hbx2
    clear k2 hbx2 o2 hQ hn hm hcut hparts b4 b5 b6 b7 HB
    have g1 : IntKind.u8.wrap (m : Int) = m := IntWalk.u8_in _ (by omega)
    have g2 : IntKind.u8.wrap (n : Int) = n := IntWalk.u8_in _ (by omega)
    obtain ⟨FV, hFV⟩ : ∃ FV : Array Value, #[Value.int .i64 4, .int .u8 0, .int .u8 0, .int .u16 0, .int .u16 0, .int .u16 0, .int .u8 0, .int .u16 0, .int .u16 0, .int .u16 0, .int .u8 0, .int .u16 0, .bool false, .int .u8 0, .int .u16 Q.wi, .int .u32 Q.ws, .int .u8 m, .int .u8 n, .string (ofL (chunk Q.way.data.toList m))] = FV := ⟨_, rfl⟩
    have HFV := hide hFV
    clear hFV
    go_wp2_with fail
    go_cut [4] (fun x wx => x = .pointer (some ⟨w2.heap.size, 0, none⟩) ∧ wx = (w2.alloc (.cells FV 36)).drew)
    case first =>
      refine wp_region_held_drew (S := fun w' => (∀ b o, b < w2.heap.size → w'.cell? ⟨b, o, none⟩ = w2.cell? ⟨b, o, none⟩) ∧ Below w2.heap.size w2 w') (by kernel_rfl) (BS.drew _) (fun hHeld => ?_)
      refine wpAnyH_take (i := 0) (v := ?_) rfl (by kernel_rfl) (by kernel_rfl) (by kernel_rfl) (fun _ _ _ h => h) (Or.inl ⟨by rfl, fun w' hSw => ?_⟩) (by assumption) ?_
      rotate_left
      · (try dsimp only at hSw); go_simp; try (with_reducible rfl)
      simp only [Act.put, List.setIfInBounds_toArray, List.set_cons_zero, List.set_cons_succ]
      refine wpAnyH_take (i := 1) (v := ?_) rfl (by kernel_rfl) (by kernel_rfl) (by kernel_rfl) (fun _ _ _ h => h) (Or.inl ⟨by rfl, fun w' hSw => ?_⟩) (by assumption) ?_
      rotate_left
      · (try dsimp only at hSw); go_simp; try (with_reducible rfl)
      simp only [Act.put, List.setIfInBounds_toArray, List.set_cons_zero, List.set_cons_succ]
      refine wpAnyH_take (i := 2) (v := ?_) rfl (by kernel_rfl) (by kernel_rfl) (by kernel_rfl) (fun _ _ _ h => h) (Or.inl ⟨by rfl, fun w' hSw => ?_⟩) (by assumption) ?_
      rotate_left
      · (try dsimp only at hSw); go_simp; try (with_reducible rfl)
      simp only [Act.put, List.setIfInBounds_toArray, List.set_cons_zero, List.set_cons_succ]
      refine wpAnyH_take (i := 3) (v := ?_) rfl (by kernel_rfl) (by kernel_rfl) (by kernel_rfl) (fun _ _ _ h => h) (Or.inl ⟨by rfl, fun w' hSw => ?_⟩) (by assumption) ?_
      rotate_left
      · (try dsimp only at hSw); go_simp; try (with_reducible rfl)
      simp only [Act.put, List.setIfInBounds_toArray, List.set_cons_zero, List.set_cons_succ]
      refine wpAnyH_take (i := 4) (v := ?_) rfl (by kernel_rfl) (by kernel_rfl) (by kernel_rfl) (fun _ _ _ h => h) (Or.inl ⟨by rfl, fun w' hSw => ?_⟩) (by assumption) ?_
      rotate_left
      · (try dsimp only at hSw); go_simp; try (with_reducible rfl)
      simp only [Act.put, List.setIfInBounds_toArray, List.set_cons_zero, List.set_cons_succ]
      refine wpAnyH_take (i := 5) (v := ?_) rfl (by kernel_rfl) (by kernel_rfl) (by kernel_rfl) (fun _ _ _ h => h) (Or.inl ⟨by rfl, fun w' hSw => ?_⟩) (by assumption) ?_
      rotate_left
      · (try dsimp only at hSw); go_simp; try (with_reducible rfl)
      simp only [Act.put, List.setIfInBounds_toArray, List.set_cons_zero, List.set_cons_succ]
      refine wpAnyH_take (i := 6) (v := ?_) rfl (by kernel_rfl) (by kernel_rfl) (by kernel_rfl) (fun _ _ _ h => h) (Or.inl ⟨by rfl, fun w' hSw => ?_⟩) (by assumption) ?_
      rotate_left
      · (try dsimp only at hSw); go_simp; try (with_reducible rfl)
      simp only [Act.put, List.setIfInBounds_toArray, List.set_cons_zero, List.set_cons_succ]
      refine wpAnyH_take (i := 7) (v := ?_) rfl (by kernel_rfl) (by kernel_rfl) (by kernel_rfl) (fun _ _ _ h => h) (Or.inl ⟨by rfl, fun w' hSw => ?_⟩) (by assumption) ?_
      rotate_left
      · (try dsimp only at hSw); go_simp; try (with_reducible rfl)
      simp only [Act.put, List.setIfInBounds_toArray, List.set_cons_zero, List.set_cons_succ]
      refine wpAnyH_take (i := 8) (v := ?_) rfl (by kernel_rfl) (by kernel_rfl) (by kernel_rfl) (fun _ _ _ h => h) (Or.inl ⟨by rfl, fun w' hSw => ?_⟩) (by assumption) ?_
      rotate_left
      · (try dsimp only at hSw); go_simp; try (with_reducible rfl)
      simp only [Act.put, List.setIfInBounds_toArray, List.set_cons_zero, List.set_cons_succ]
      refine wpAnyH_take (i := 9) (v := ?_) rfl (by kernel_rfl) (by kernel_rfl) (by kernel_rfl) (fun _ _ _ h => h) (Or.inl ⟨by rfl, fun w' hSw => ?_⟩) (by assumption) ?_
      rotate_left
      · (try dsimp only at hSw); go_simp; try (with_reducible rfl)
      simp only [Act.put, List.setIfInBounds_toArray, List.set_cons_zero, List.set_cons_succ]
      refine wpAnyH_take (i := 10) (v := ?_) rfl (by kernel_rfl) (by kernel_rfl) (by kernel_rfl) (fun _ _ _ h => h) (Or.inl ⟨by rfl, fun w' hSw => ?_⟩) (by assumption) ?_
      rotate_left
      · (try dsimp only at hSw); go_simp; try (with_reducible rfl)
      simp only [Act.put, List.setIfInBounds_toArray, List.set_cons_zero, List.set_cons_succ]
      refine wpAnyH_take (i := 11) (v := ?_) rfl (by kernel_rfl) (by kernel_rfl) (by kernel_rfl) (fun _ _ _ h => h) (Or.inl ⟨by rfl, fun w' hSw => ?_⟩) (by assumption) ?_
      rotate_left
      · (try dsimp only at hSw); go_simp; try (with_reducible rfl)
      simp only [Act.put, List.setIfInBounds_toArray, List.set_cons_zero, List.set_cons_succ]
      refine wpAnyH_take (i := 12) (v := ?_) rfl (by kernel_rfl) (by kernel_rfl) (by kernel_rfl) (fun _ _ _ h => h) (Or.inl ⟨by rfl, fun w' hSw => ?_⟩) (by assumption) ?_
      rotate_left
      · (try dsimp only at hSw); go_simp; try (with_reducible rfl)
      simp only [Act.put, List.setIfInBounds_toArray, List.set_cons_zero, List.set_cons_succ]
      refine wpAnyH_take (i := 13) (v := ?_) rfl (by kernel_rfl) (by kernel_rfl) (by kernel_rfl) (fun _ _ _ h => h) (Or.inl ⟨by rfl, fun w' hSw => ?_⟩) (by assumption) ?_
      rotate_left
      · (try dsimp only at hSw); go_simp; try (with_reducible rfl)
      simp only [Act.put, List.setIfInBounds_toArray, List.set_cons_zero, List.set_cons_succ]
      refine wpAnyH_call (i := 14) (v := .int .i64 n) rfl (by kernel_rfl) (by kernel_rfl) (by kernel_rfl) (fun _ _ _ h => h) ⟨by rfl, fun w' hSw => ?_, fun w' hSw => HPARTS.out w'⟩ (by assumption) ?_
      · (go_simp; try (with_reducible rfl))
      simp only [Act.put, List.setIfInBounds_toArray, List.set_cons_zero, List.set_cons_succ]
      refine wpAnyH_take (i := 15) (v := ?_) rfl (by kernel_rfl) (by kernel_rfl) (by kernel_rfl) (fun _ _ _ h => h) (Or.inl ⟨by rfl, fun w' hSw => ?_⟩) (by assumption) ?_
      rotate_left
      · (try dsimp only at hSw); go_simp; try (with_reducible rfl)
      simp only [Act.put, List.setIfInBounds_toArray, List.set_cons_zero, List.set_cons_succ]
      refine wpAnyH_take (i := 16) (v := ?_) rfl (by kernel_rfl) (by kernel_rfl) (by kernel_rfl) (fun _ _ _ h => h) (Or.inl ⟨by rfl, fun w' hSw => ?_⟩) (by assumption) ?_
      rotate_left
      · (try dsimp only at hSw); go_simp; try (with_reducible rfl)
      simp only [Act.put, List.setIfInBounds_toArray, List.set_cons_zero, List.set_cons_succ]
      refine wpAnyH_take (i := 17) (v := ?_) rfl (by kernel_rfl) (by kernel_rfl) (by kernel_rfl) (fun _ _ _ h => h) (Or.inl ⟨by rfl, fun w' hSw => ?_⟩) (by assumption) ?_
      rotate_left
      · (try dsimp only at hSw); go_simp; try (with_reducible rfl)
      simp only [Act.put, List.setIfInBounds_toArray, List.set_cons_zero, List.set_cons_succ]
      refine wpAnyH_take (i := 18) (v := ?_) rfl (by kernel_rfl) (by kernel_rfl) (by kernel_rfl) (fun _ _ _ h => h) (Or.inl ⟨by rfl, fun w' hSw => ?_⟩) (by assumption) ?_
      rotate_left
      · (try dsimp only at hSw); go_simp; try (with_reducible rfl)
      simp only [Act.put, List.setIfInBounds_toArray, List.set_cons_zero, List.set_cons_succ]
      refine wpAnyH_take (i := 19) (v := ?_) rfl (by kernel_rfl) (by kernel_rfl) (by kernel_rfl) (fun _ _ _ h => h) (Or.inl ⟨by rfl, fun w' hSw => ?_⟩) (by assumption) ?_
      rotate_left
      · (try dsimp only at hSw); go_simp; try (with_reducible rfl)
      simp only [Act.put, List.setIfInBounds_toArray, List.set_cons_zero, List.set_cons_succ]
      refine wpAnyH_take (i := 20) (v := ?_) rfl (by kernel_rfl) (by kernel_rfl) (by kernel_rfl) (fun _ _ _ h => h) (Or.inl ⟨by rfl, fun w' hSw => ?_⟩) (by assumption) ?_
      rotate_left
      · (try dsimp only at hSw); go_simp; try (with_reducible rfl)
      simp only [Act.put, List.setIfInBounds_toArray, List.set_cons_zero, List.set_cons_succ]
      refine wpAnyH_take (i := 21) (v := ?_) rfl (by kernel_rfl) (by kernel_rfl) (by kernel_rfl) (fun _ _ _ h => h) (Or.inl ⟨by rfl, fun w' hSw => ?_⟩) (by assumption) ?_
      rotate_left
      · (try dsimp only at hSw); go_simp; try (with_reducible rfl)
      simp only [Act.put, List.setIfInBounds_toArray, List.set_cons_zero, List.set_cons_succ]
      refine wpAnyH_take (i := 22) (v := ?_) rfl (by kernel_rfl) (by kernel_rfl) (by kernel_rfl) (fun _ _ _ h => h) (Or.inl ⟨by rfl, fun w' hSw => ?_⟩) (by assumption) ?_
      rotate_left
      · (try dsimp only at hSw); go_simp; try (with_reducible rfl)
      simp only [Act.put, List.setIfInBounds_toArray, List.set_cons_zero, List.set_cons_succ]
      refine wpAnyH_take (i := 23) (v := ?_) rfl (by kernel_rfl) (by kernel_rfl) (by kernel_rfl) (fun _ _ _ h => h) (Or.inl ⟨by rfl, fun w' hSw => ?_⟩) (by assumption) ?_
      rotate_left
      · (try dsimp only at hSw); go_simp; try (with_reducible rfl)
      simp only [Act.put, List.setIfInBounds_toArray, List.set_cons_zero, List.set_cons_succ]
      refine wpAnyH_take (i := 24) (v := ?_) rfl (by kernel_rfl) (by kernel_rfl) (by kernel_rfl) (fun _ _ _ h => h) (Or.inl ⟨by rfl, fun w' hSw => ?_⟩) (by assumption) ?_
      rotate_left
      · (try dsimp only at hSw); go_simp; try (with_reducible rfl)
      simp only [Act.put, List.setIfInBounds_toArray, List.set_cons_zero, List.set_cons_succ]
      refine wpAnyH_call (i := 25) (v := .string (ofL (chunk Q.way.data.toList m))) rfl (by kernel_rfl) (by kernel_rfl) (by kernel_rfl) (fun _ _ _ h => h) ⟨by rfl, fun w' hSw => ?_, fun w' hSw => HCUT.out w'⟩ (by assumption) ?_
      · (go_simp; try (with_reducible rfl))
      simp only [Act.put, List.setIfInBounds_toArray, List.set_cons_zero, List.set_cons_succ]
      refine wpAnyH_take (i := 26) (v := ?_) rfl (by kernel_rfl) (by kernel_rfl) (by kernel_rfl) (fun _ _ _ h => h) (Or.inl ⟨by rfl, fun w' hSw => ?_⟩) (by assumption) ?_
      rotate_left
      · (try dsimp only at hSw); go_simp; try (with_reducible rfl)
      simp only [Act.put, List.setIfInBounds_toArray, List.set_cons_zero, List.set_cons_succ]
      refine wpAnyH_ready (rs := [27]) (by kernel_rfl) (by simp) ?_
      refine AllReadyH.cons rfl (fun K hK => ?_) AllReadyH.nil
      go_simp
      refine hK.out _ _ ?_ (fun hHeld => ?_)
      · exact BS.alloc_drew _ _
      clear hK K
      try simp only [Act.put, List.setIfInBounds_toArray, List.set_cons_zero, List.set_cons_succ]
      refine wpAnyH_ready (rs := [28]) (by kernel_rfl) (by simp) ?_
      refine AllReadyH.cons rfl (fun K hK => ?_) AllReadyH.nil
      rw [if_pos (by rfl)]
      refine wp_store_row 36 _ _ rfl w2.heap.size #[Value.int .i64 4, .int .u8 0, .int .u8 0, .int .u16 0, .int .u16 0, .int .u16 0, .int .u8 0, .int .u16 0, .int .u16 0, .int .u16 0, .int .u8 0, .int .u16 0, .bool false, .int .u8 0, .int .u16 Q.wi, .int .u32 Q.ws, .int .u8 m, .int .u8 n, .string (ofL (chunk Q.way.data.toList m))] rfl rfl 36 #[Value.int .i64 0, .int .u8 0, .int .u8 0, .int .u16 0, .int .u16 0, .int .u16 0, .int .u8 0, .int .u16 0, .int .u16 0, .int .u16 0, .int .u8 0, .int .u16 0, .bool false, .int .u8 0, .int .u16 0, .int .u32 0, .int .u8 0, .int .u8 0, .string ⟨#[]⟩] (heap_alloc_new w2 _) (by kernel_rfl) rfl (by kernel_rfl) ?_
      rw [show (w2.alloc (.cells #[Value.int .i64 0, .int .u8 0, .int .u8 0, .int .u16 0, .int .u16 0, .int .u16 0, .int .u8 0, .int .u16 0, .int .u16 0, .int .u16 0, .int .u8 0, .int .u16 0, .bool false, .int .u8 0, .int .u16 0, .int .u32 0, .int .u8 0, .int .u8 0, .string ⟨#[]⟩] 36)).drew.setRow w2.heap.size #[Value.int .i64 4, .int .u8 0, .int .u8 0, .int .u16 0, .int .u16 0, .int .u16 0, .int .u8 0, .int .u16 0, .int .u16 0, .int .u16 0, .int .u8 0, .int .u16 0, .bool false, .int .u8 0, .int .u16 Q.wi, .int .u32 Q.ws, .int .u8 m, .int .u8 n, .string (ofL (chunk Q.way.data.toList m))] = (w2.alloc (.cells #[Value.int .i64 4, .int .u8 0, .int .u8 0, .int .u16 0, .int .u16 0, .int .u16 0, .int .u8 0, .int .u16 0, .int .u16 0, .int .u16 0, .int .u8 0, .int .u16 0, .bool false, .int .u8 0, .int .u16 Q.wi, .int .u32 Q.ws, .int .u8 m, .int .u8 n, .string (ofL (chunk Q.way.data.toList m))] 36)).drew from World.setRow_alloc_new w2.drew _ _ _]
      refine hK.out _ _ ?_ (fun hHeld => ?_)
      · exact BS.alloc_drew _ _
      clear hK K
      try simp only [Act.put, List.setIfInBounds_toArray, List.set_cons_zero, List.set_cons_succ]
      refine wpAnyH_done (by kernel_rfl) ?_ _
      go_wp2_with fail
      go_meet
      case rel => exact ⟨rfl, by rw [← HFV.out]⟩
    case rest =>
      obtain ⟨rfl, rfl⟩ := hcut
      have e8 : FV = frV P.frame := by
        rw [← HFV.out]
        unfold Pb.frame
        rw [HQ.out, HN.out, HM.out, Int.toNat_natCast]
        rfl
      have st : Pb.step P = { Q with next := (m : Int) + 1, left := Q.left - 1 } := by
        unfold Pb.step
        rw [HQ.out, HM.out]
      rw [e8]
      have hq4 : (w2.alloc (.cells (frV P.frame) 36)).drew.heap[w2.heap.size]? = some (.cells (frV P.frame) 36 (0, 0)) := heap_alloc_new w2 _
      have hb4 : Below w2.heap.size w2 (w2.alloc (.cells (frV P.frame) 36)).drew := ((Below.refl _ _).alloc (Nat.le_refl _) _).drew
      have K4 := hide (blk_below K2.out hb4)
      have HBX4 := hide (blk_below HBX2.out hb4)
      have O4 := hide (O2.out.trans (Below.only hb4))
      have HQ4 := hide hq4
      have E8 := hide e8; have ST := hide st
      clear hq4 hb4 c0 c4 c5 c6 c7 e8 st
      generalize (w2.alloc (.cells (frV P.frame) 36)).drew = w4 at K4 HBX4 O4 HQ4 ⊢
      generalize w2.heap.size = q at hp2 hx2 HQ4 ⊢
      have c7 : w4.cell? ⟨p, 7, none⟩ = some (.int .i64 m) := by rw [← HM.out]; exact blk_cell K4.out 7
      have c8 : w4.cell? ⟨p, 8, none⟩ = some (.int .i64 Q.left) := blk_cell K4.out 8
      have f7 := blk_frozen K4.out 7
      have f8 := blk_frozen K4.out 8
      go_upto_region 8 with fail
      have hq5 : ((w4.setCell ⟨p, 7, none⟩ (.int .i64 ((m : Int) + 1))).setCell ⟨p, 8, none⟩ (.int .i64 (Q.left - 1))).heap[q]? = some (.cells (frV P.frame) 36 (0, 0)) := by
        rw [set_other _ _ (by omega), set_other _ _ (by omega)]; exact HQ4.out
      have hx5 : ((w4.setCell ⟨p, 7, none⟩ (.int .i64 ((m : Int) + 1))).setCell ⟨p, 8, none⟩ (.int .i64 (Q.left - 1))).heap[w.heap.size]? = some (.cells (frV zFr) 36 (0, 0)) := by
        rw [set_other _ _ (by omega), set_other _ _ (by omega)]; exact HBX4.out
      have k5 : PAt ((w4.setCell ⟨p, 7, none⟩ (.int .i64 ((m : Int) + 1))).setCell ⟨p, 8, none⟩ (.int .i64 (Q.left - 1))) p { Q with next := (m : Int) + 1, left := Q.left - 1 } := set_heap (set_heap K4.out 7 _) 8 _
      have o5 := (O4.out.set p 7 (.int .i64 ((m : Int) + 1)) (.inl rfl)).set p 8 (.int .i64 (Q.left - 1)) (.inl rfl)
      generalize (w4.setCell ⟨p, 7, none⟩ (.int .i64 ((m : Int) + 1))).setCell ⟨p, 8, none⟩ (.int .i64 (Q.left - 1)) = w5 at hq5 hx5 k5 o5 ⊢
      have HX5 := hide hx5; have K5 := hide k5; have O5 := hide o5
      clear hx5 k5 o5 c7 c8 f7 f8 K4 HBX4 O4 HQ4
      go_wp2_with (first
        | (refine wpList_load_row rfl 36 _ rfl _ rfl 36 (frV P.frame) (0, 0) _ hq5 Try.underlying36 rfl (by kernel_rfl) ?_)
        | (refine wpList_store_row rfl 36 _ _ rfl w.heap.size (frV P.frame) rfl rfl 36 _ HX5.out (by kernel_rfl) rfl (by rw [Array.all_eq_true_iff_forall_mem]; exact fun v hv => frV_one P.frame v (by simpa using hv)) ?_))
      refine bodyPost_ret (v := .tuple #[.agg (frV P.frame), .bool true]) (results_cell_tmp (b := w.heap.size) Try.results11 rfl (range_blk (setRow_heap _ _ _ _ _ _ HX5.out)) Try.underlying36 rfl (by kernel_rfl)) rfl ⟨rfl, ?_, ?_⟩
      · rw [ST.out]
        exact (setRow_other _ _ _ _ (by omega)).trans K5.out
      · exact ⟨O5.out.os, O5.out.tape, O5.out.output, by rw [setRow_size]; exact O5.out.size, fun k hk h1 h2 => (setRow_other _ _ _ _ (by omega)).trans (O5.out.block k hk h1 h2)⟩
end Go.Proofs.Ytdmohidkighajaa
