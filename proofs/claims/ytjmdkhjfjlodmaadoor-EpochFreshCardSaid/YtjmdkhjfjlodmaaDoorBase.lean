/- Small words for the walks: blocks, bytes, copies, pasted bytes. No program is named here. -/
import Derived.WalkKit
import Derived.WalkSpells
import Derived.WalkLawsBesides
import Derived.Handy
import Derived.Lib.LazyBuf
import Derived.Lib.ConvBytes
import Derived.Deep.RegionLaw
import Derived.Deep.QuietTactic
import Derived.BigQuiet
import Derived.RegionTactic
import Derived.BigRegion
import Derived.Deep.RegionHeld3
namespace Go.Proofs.YtjmdkhjfjlodmaaDoor
open Go.RowKit
set_option linter.unusedVariables false
set_option linter.unusedSimpArgs false

theorem hide {p : Prop} (h : p) : Hid p := h

theorem blk_cell {w : World} {g : Nat} {t : TypeId} {cs : Array Value} {m} (h : w.heap[g]? = some (.cells cs t m)) (i : Nat) : w.cell? ⟨g, i, none⟩ = cs[i]? := cell_of_row w g i cs t m h

theorem blk_frozen {w : World} {g : Nat} {t : TypeId} {cs : Array Value} (h : w.heap[g]? = some (.cells cs t (0, 0))) (i : Nat) : w.frozen? ⟨g, i, none⟩ = false := by simp [World.frozen?, h]

/-- Only blocks g and h have turned (and what is new). -/
structure Only (g h : Nat) (w w' : World) : Prop where
  os : w'.os = w.os
  tape : w'.tape = w.tape
  output : w'.output = w.output
  size : w.heap.size ≤ w'.heap.size
  block : ∀ k, k < w.heap.size → k ≠ g → k ≠ h → w'.heap[k]? = w.heap[k]?

theorem Only.refl (g h : Nat) (w : World) : Only g h w w := ⟨rfl, rfl, rfl, Nat.le_refl _, fun _ _ _ _ => rfl⟩

theorem Only.trans {g h : Nat} {a b c : World} (x : Only g h a b) (y : Only g h b c) : Only g h a c :=
  ⟨y.os.trans x.os, y.tape.trans x.tape, y.output.trans x.output, Nat.le_trans x.size y.size, fun k hk h1 h2 => (y.block k (Nat.lt_of_lt_of_le hk x.size) h1 h2).trans (x.block k hk h1 h2)⟩

theorem Only.set {g h : Nat} {a w : World} (x : Only g h a w) (b i : Nat) (u : Value) (hb : b = g ∨ b = h) : Only g h a (w.setCell ⟨b, i, none⟩ u) :=
  x.trans ⟨rfl, rfl, rfl, by simp [World.setCell], fun k _ h1 h2 => Below.heap_setCell _ _ _ _ (by rcases hb with rfl | rfl <;> assumption)⟩

theorem Only.drewN {g h : Nat} {a w : World} (x : Only g h a w) (n : Nat) : Only g h a (w.drewN n) := x.trans ⟨rfl, rfl, rfl, Nat.le_refl _, fun _ _ _ _ => rfl⟩

theorem set_heap {w : World} {g : Nat} {t : TypeId} {cs : Array Value} {m} (h : w.heap[g]? = some (.cells cs t m)) (i : Nat) (u : Value) : (w.setCell ⟨g, i, none⟩ u).heap[g]? = some (.cells (cs.setIfInBounds i u) t m) := by
  simp [World.setCell, Array.getElem?_modify, h]

theorem set_other {w : World} {g h : Nat} (i : Nat) (u : Value) (hne : h ≠ g) : (w.setCell ⟨g, i, none⟩ u).heap[h]? = w.heap[h]? := Below.heap_setCell _ _ _ _ hne

/-- The string of some bytes. -/
def ofL (l : List UInt8) : ByteArray := ⟨l.toArray⟩
theorem ofL_size (l : List UInt8) : (ofL l).size = l.length := by simp [ofL, ByteArray.size]
theorem ofL_data (l : List UInt8) : (ofL l).data.toList = l := by simp [ofL]
theorem ofL_of (s : ByteArray) : ofL s.data.toList = s := by simp [ofL]
theorem ofL_inj {a b : List UInt8} (h : ofL a = ofL b) : a = b := by rw [← ofL_data a, h, ofL_data]
theorem size_data (s : ByteArray) : s.data.toList.length = s.size := by rw [Array.length_toList]; rfl
def numsOf (l : List UInt8) : List Int := l.map fun b => (b.toNat : Int)
theorem strOf_nums (l : List UInt8) : strOfNums (numsOf l) = ofL l := by
  simp only [strOfNums, numsOf, ofL, List.map_map]
  congr
  have : ((fun n : Int => UInt8.ofNat n.toNat) ∘ fun b : UInt8 => (b.toNat : Int)) = id := by
    funext b; simp
  rw [this, List.map_id]

/-- 'string(b[a:a+m])': the cut, its address a letter, and what its bytes are. -/
theorem cut_lh {P : Program} (t e : TypeId) (ht : P.underlying t = some (.slice e)) (hs : (P.info? e).map (·.size) = some 1) (he : P.underlying e = some (.int .u8)) (h n c : Nat) (a m : Int) (h0 : 0 ≤ a) (h1 : 0 ≤ m) (hn : n ≤ c) (h2 : a + m ≤ n)
    (l : List UInt8) (hl : l.length = n) (w : World) (hc : ∀ i (hi : i < l.length), w.cell? ⟨h, i, none⟩ = some (.int .u8 (l[i].toNat : Int))) :
    ∃ A' : Option Addr, (∀ W : World, (Instr.slice t (.slice (some ⟨h, 0, none⟩) n c) (some (.int .i64 a)) (some (.int .i64 (a + m))) none).run P W = .ok (.slice A' m.toNat (c - a.toNat)) W) ∧
      ∀ dst, P.underlying dst = some .string → (convert t dst (.slice A' m.toNat (c - a.toNat))).run P w = .ok (.string (ofL ((l.drop a.toNat).take m.toNat))) w := by
  obtain ⟨i, hi, hsz⟩ : ∃ i, P.info? e = some i ∧ i.size = 1 := by simpa using hs
  refine ⟨some ⟨h, if c = a.toNat then 0 else a.toNat, none⟩, fun W => ?_, fun dst hd => ?_⟩
  · have hel : P.elem t = e := by simp [Program.elem, ht]
    have hu : P.underlying t = some (.slice (P.elem t)) := by rw [hel]; exact ht
    rw [run_slice_lh W t (some ⟨h, 0, none⟩) n c hu .i64 .i64 a (a + m) h0 (by omega) (by omega), hel]
    have h3 : (a + m).toNat - a.toNat = m.toNat := by omega
    simp [sizeOf, typeInfo, hi, hsz, sliced, Result.andThen, h3]
    split
    · rfl
    · unfold Addr.add; split <;> simp_all
  · have := run_convert_bytes_arg (P := P) w t e ht he h (if c = a.toNat then 0 else a.toNat) m.toNat (c - a.toNat) (numsOf ((l.drop a.toNat).take m.toNat)) (by simp [numsOf]; omega) (fun j hj => by
      have hne : c ≠ a.toNat := by omega
      rw [if_neg hne, hc (a.toNat + j) (by omega)]
      simp [numsOf, List.getD, hj, show a.toNat + j < l.length by omega]) dst hd
    rw [this, strOf_nums]

/-- 'b[a:]'. -/
theorem cut_l {P : Program} (t e : TypeId) (ht : P.underlying t = some (.slice e)) (hs : (P.info? e).map (·.size) = some 1) (h n c : Nat) (a : Int) (h0 : 0 ≤ a) (h2 : a ≤ n) :
    ∀ W : World, (Instr.slice t (.slice (some ⟨h, 0, none⟩) n c) (some (.int .i64 a)) none none).run P W = .ok (.slice (some ⟨h, if c = a.toNat then 0 else a.toNat, none⟩) (n - a.toNat) (c - a.toNat)) W := by
  obtain ⟨i, hi, hsz⟩ : ∃ i, P.info? e = some i ∧ i.size = 1 := by simpa using hs
  intro W
  have hel : P.elem t = e := by simp [Program.elem, ht]
  have hu : P.underlying t = some (.slice (P.elem t)) := by rw [hel]; exact ht
  rw [run_slice_l W t (some ⟨h, 0, none⟩) n c hu .i64 a h0 (by omega), hel]
  simp [sizeOf, typeInfo, hi, hsz, sliced, Result.andThen]
  split
  · rfl
  · unfold Addr.add; split <;> simp_all

def cellsU (l : List UInt8) : List Value := l.map fun x => Value.int .u8 (x.toNat : Int)
theorem cellsU_length (l : List UInt8) : (cellsU l).length = l.length := by simp [cellsU]

/-- 'copy(b[a:], t)' where t fits. -/
theorem copy_at {P : Program} (dT sT ty e : TypeId) (hu : P.underlying dT = some (.slice e)) (hs : (P.info? e).map (·.size) = some 1) (h n c a : Nat) (t : ByteArray) (hle : a + t.size ≤ n) (hnc : n ≤ c)
    (w : World) (hc : ∀ j, j < n → (w.cell? ⟨h, j, none⟩).isSome = true) (hf : ∀ j, j < n → w.frozen? ⟨h, j, none⟩ = false) :
    (Builtin.copy_ #[dT, sT] ty #[.slice (some ⟨h, if c = a then 0 else a, none⟩) (n - a) (c - a), .string t]).run P w = .ok (goInt t.size) (w.setCells h a (cellsU t.data.toList)) := by
  obtain ⟨i, hi, hsz⟩ : ∃ i, P.info? e = some i ∧ i.size = 1 := by simpa using hs
  have hz : ∀ w, (Go.sizeOf e).run P w = .ok 1 w := by intro w; simp [sizeOf, typeInfo, hi, hsz]
  by_cases h0 : t.size = 0
  · have hd : t.data.toList = [] := List.eq_nil_of_length_eq_zero (by rw [size_data]; exact h0)
    have := run_copy_string (P := P) w dT sT ty e h (if c = a then 0 else a) (n - a) (c - a) t hu hz (by omega) (fun j hj => by omega) (fun j hj => by omega)
    rw [this, hd]
    rfl
  · rw [if_neg (by omega)]
    exact run_copy_string (P := P) w dT sT ty e h a (n - a) (c - a) t hu hz (by omega) (fun j hj => hc _ (by omega)) (fun j hj => hf _ (by omega))

theorem step_copy_ex {P : Program} {ops : Array Oper} {o : Oper} {a : Act} {w : World} {K : Act → World → Prop} {Q : Exit → Act → World → Prop} {E : Prop} (hgd : o.guard = none) (d s : Operand) (t t' : TypeId)
    (ho : o.op = .call { callee := .builtin .copy, args := #[d, s], argTypes := #[t, t'] }) (v u : Value) (hd : a.eval d = v) (hs : a.eval s = u) {v' : Value} {R : World → Prop}
    (hr : ∃ w', (Builtin.copy_ #[t, t'] o.type #[v, u]).run P w = .ok v' w' ∧ R w') (h : ∀ w', R w' → K (a.put o.dst v') w') : if Region.wanted o (yielded ops a.tmps) = true then Oper.wp P o a w K Q else E := by
  have hw : Region.wanted o (yielded ops a.tmps) = true := by simp [Region.wanted, hgd]
  obtain ⟨w', hr, hR⟩ := hr
  rw [if_pos hw]
  unfold Oper.wp execOp
  simp only [ho, resolve, invoke, builtin, Sem.run_bind, Sem.run_pure, Result.andThen_ok, List.map_toArray, List.map_cons, List.map_nil, hd, hs, hr]
  exact h _ hR

theorem Only.cells {g h : Nat} {a w : World} (x : Only g h a w) (o : Nat) (vs : List Value) : Only g h a (w.setCells h o vs) := by
  induction vs generalizing o w with
  | nil => exact x
  | cons v vs ih => exact ih (x.set h o v (.inr rfl)) (o + 1)

theorem heap_setCells_other {h g : Nat} (hne : g ≠ h) : ∀ (vs : List Value) (o : Nat) (w : World), (w.setCells h o vs).heap[g]? = w.heap[g]?
  | [], _, _ => rfl
  | v :: vs, o, w => (heap_setCells_other hne vs (o + 1) _).trans (Below.heap_setCell _ _ _ _ hne)

theorem size_setCells {h : Nat} : ∀ (vs : List Value) (o : Nat) (w : World), (w.setCells h o vs).heap.size = w.heap.size
  | [], _, _ => rfl
  | v :: vs, o, w => (size_setCells vs (o + 1) _).trans (by simp [World.setCell])

theorem wpList_copy_go {P : Program} {ops : Array Oper} {rest : List Oper} {o : Oper} {a : Act} {w : World} {Q : Exit → Act → World → Prop} (hgd : o.guard = none) (d s : Operand) (t t' : TypeId)
    (ho : o.op = .call { callee := .builtin .copy, args := #[d, s], argTypes := #[t, t'] }) (v u : Value) (hd : a.eval d = v) (hs : a.eval s = u) {v' : Value} {w' : World}
    (hr : (Builtin.copy_ #[t, t'] o.type #[v, u]).run P w = .ok v' w') (h : wpList P ops Q rest (a.put o.dst v') w') : wpList P ops Q (o :: rest) a w :=
  wpList_plain hgd fun K hK => by
    have := step_copy_ex (P := P) (ops := ops) (o := o) (a := a) (w := w) (K := K) (Q := Q) (E := True) (R := fun x => x = w') hgd d s t t' ho v u hd hs ⟨w', hr, rfl⟩ (fun x hx => by subst hx; exact hK _ _ h)
    rwa [if_pos (by simp [Region.wanted, hgd])] at this

theorem Only.below {B g h : Nat} {a w w' : World} (b : Below B a w) (o : Only g h w w') (hg : B ≤ g) (hh : B ≤ h) (hB : B ≤ w.heap.size) : Below B a w' :=
  b.trans ⟨o.os, o.tape, o.output, o.size, fun k hk => o.block k (by omega) (by omega) (by omega)⟩

theorem max_i (ats : Array TypeId) (ty : TypeId) (k k' : IntKind) (x y : Int) : Builtin.max_ ats ty #[.int k x, .int k' y] = pure (.int k (max x y)) := by
  have e : (if x < y then y else x) = max x y := by split <;> omega
  simp only [Builtin.max_, List.foldlM_cons, List.foldlM_nil, Builtin.max2, gt_iff_lt, e]
  rfl

theorem min_i (ats : Array TypeId) (ty : TypeId) (k k' : IntKind) (x y : Int) : Builtin.min_ ats ty #[.int k x, .int k' y] = pure (.int k (min x y)) := by
  have e : (if y < x then y else x) = min x y := by split <;> omega
  simp only [Builtin.min_, List.foldlM_cons, List.foldlM_nil, Builtin.min2, e]
  rfl

/-- 'make([]byte, n)'. -/
theorem make_u8 {P : Program} (t e : TypeId) (ht : P.underlying t = some (.slice e)) (hinfo : (P.info? e).map (fun i => (i.zero, i.size, i.bytes)) = some (some (.int .u8 0), 1, 1)) (n : Nat) (hn : n ≤ 1000) :
    ∀ w : World, (Instr.makeSlice t (.int .i64 (n : Int)) (.int .i64 (n : Int))).run P w = .ok (.slice (some ⟨w.heap.size, 0, none⟩) n n) (w.alloc (.cells (madeCells #[.int .u8 0] n) e)) := by
  intro w
  obtain ⟨i, hi, hz, hs, hb⟩ := info_parts hinfo
  have hr := run_make (P := P) w t e i _ ht hi hz .i64 .i64 n n (by omega) (by omega) (by rw [hb]; omega) (by omega)
  rw [hs] at hr
  have hz : (Value.int IntKind.u8 0).cells = #[.int .u8 0] := rfl
  simpa [hz] using hr

theorem madeCells_get (v : Value) (n i : Nat) (h : i < n) : (madeCells #[v] n)[i]? = some v := by
  simp [madeCells, h, Nat.mod_one]

theorem old_alloc {w : World} {g : Nat} {o : Obj} (h : w.heap[g]? = some o) (o' : Obj) : (w.alloc o').heap[g]? = some o := (Below.heap_alloc w o' g (Array.getElem?_eq_some_iff.1 h).1).trans h

theorem new_alloc {w : World} {g : Nat} (o : Obj) (_ : True) (h : g = w.heap.size) : (w.alloc o).heap[g]? = some o := by subst h; exact heap_alloc_new w o

theorem ofL_toList (l : List UInt8) : (ofL l).toList = l := by rw [ByteArray.toList_eq, ofL_data]

theorem box_cell {w w1 : World} {cs : Array Value} {t : TypeId} (b1 : Below (w.alloc (.cells cs t)).heap.size (w.alloc (.cells cs t)) w1) (i : Nat) : w1.cell? ⟨w.heap.size, i, none⟩ = cs[i]? := by
  rw [b1.cell (by simp)]
  exact blk_cell (heap_alloc_new w _) i

theorem box_below {w w1 : World} {o : Obj} (b1 : Below (w.alloc o).heap.size (w.alloc o) w1) : Below w.heap.size w w1 := ((Below.refl _ _).alloc (Nat.le_refl _) _).trans (b1.mono (by simp))

/-- Bytes pasted over others. -/
def pasteL (b : List UInt8) (a : Nat) (l : List UInt8) : List UInt8 := b.take a ++ l ++ b.drop (a + l.length)
theorem pasteL_length {b : List UInt8} {a : Nat} {l : List UInt8} (h : a + l.length ≤ b.length) : (pasteL b a l).length = b.length := by simp [pasteL]; omega

theorem pasteL_get {b : List UInt8} {a : Nat} {l : List UInt8} (h : a + l.length ≤ b.length) (i : Nat) : (pasteL b a l)[i]? = if i < a then b[i]? else if i < a + l.length then l[i - a]? else b[i]? := by
  unfold pasteL
  have hm : min a b.length = a := by omega
  split
  · rw [List.getElem?_append_left (by simp; omega), List.getElem?_append_left (by simp; omega), List.getElem?_take, if_pos (by assumption)]
  · split
    · rw [List.getElem?_append_left (by simp; omega), List.getElem?_append_right (by simp; omega)]
      simp [hm]
    · rw [List.getElem?_append_right (by simp; omega), List.getElem?_drop]
      congr 1
      simp [hm]
      omega

theorem pasteL_cut {b : List UInt8} {a : Nat} {l : List UInt8} (h : a + l.length ≤ b.length) : ((pasteL b a l).drop a).take l.length = l := by
  have e : (b.take a).length = a := by simp; omega
  unfold pasteL
  rw [List.append_assoc, List.drop_append_of_le_length (by omega), List.drop_of_length_le (by omega)]
  simp

theorem pasteL_comm {b l m : List UInt8} {i j : Nat} (h1 : i + l.length ≤ j) (h2 : j + m.length ≤ b.length) : pasteL (pasteL b i l) j m = pasteL (pasteL b j m) i l := by
  apply List.ext_getElem?
  intro k
  rw [pasteL_get (by rw [pasteL_length (by omega)]; omega), pasteL_get (by omega), pasteL_get (by rw [pasteL_length (by omega)]; omega), pasteL_get (by omega)]
  by_cases c1 : k < i
  · rw [if_pos (by omega), if_pos c1, if_pos c1, if_pos (by omega)]
  · by_cases c2 : k < i + l.length
    · rw [if_pos (by omega), if_neg c1, if_pos c2, if_neg c1, if_pos c2]
    · rw [if_neg c1, if_neg c2, if_neg c1, if_neg c2]

theorem extract_ofL (l : List UInt8) (i j : Nat) : (ofL l).extract i j = ofL ((l.drop i).take (j - i)) := by
  rw [← ofL_of ((ofL l).extract i j)]
  congr 1
  simp [ofL]

theorem quiet_left {P : Program} {f : FuncId} {args : Array Value} {w : World} {n : Nat} {v : Value}
    (h : Calls P f args (w.drewN n) fun e w' => e = .returned v ∧ w.drewN n = w') : Calls P f args (w.drewN n) fun e w'' => e = .returned v ∧ ∃ m, w'' = w.drewN m :=
  h.mono fun _ _ ⟨he, hm⟩ => ⟨he, n, hm.symm⟩

theorem ofL_eq {s : ByteArray} {l : List UInt8} (h : s.data.toList = l) : s = ofL l := by rw [← h, ofL_of]

theorem data_append (a b : ByteArray) : (a ++ b).data.toList = a.data.toList ++ b.data.toList := by simp

theorem data_extract (a : ByteArray) (i j : Nat) : (a.extract i j).data.toList = (a.data.toList.drop i).take (j - i) := by simp

theorem pasteL_over {b l : List UInt8} {a k : Nat} (h : a + l.length ≤ b.length) (hk : k ≤ l.length) : pasteL (pasteL b a (l.take k)) a l = pasteL b a l := by
  have lk : (l.take k).length = k := by simp; omega
  have lp : (pasteL b a (l.take k)).length = b.length := by rw [pasteL_length]; omega
  apply List.ext_getElem?
  intro i
  rw [pasteL_get (by rw [lp]; omega), pasteL_get (by omega), pasteL_get (by omega)]
  by_cases c1 : i < a
  · rw [if_pos c1, if_pos c1, if_pos c1]
  · rw [if_neg c1, if_neg c1, if_neg c1]
    by_cases c2 : i < a + l.length
    · rw [if_pos c2, if_pos c2]
    · rw [if_neg c2, if_neg c2, if_neg (by omega)]

/-- Block g: a struct of type T, its first cell a slice of the bytes b in block h, the other cells cs. -/
structure BAt (T : TypeId) (w : World) (g h cap : Nat) (b : List UInt8) (cs : List Value) : Prop where
  blk : w.heap[g]? = some (.cells (.slice (some ⟨h, 0, none⟩) b.length cap :: cs).toArray T (0, 0))
  ne : g ≠ h
  cell : ∀ i (hi : i < b.length), w.cell? ⟨h, i, none⟩ = some (.int .u8 (b[i].toNat : Int))
  free : ∀ i, i < b.length → w.frozen? ⟨h, i, none⟩ = false
  lt : h < w.heap.size
  le : b.length ≤ cap
  small : b.length ≤ 1000

section
variable {T : TypeId} {w : World} {g h cap : Nat} {b : List UInt8} {cs : List Value}
theorem BAt.c (k : BAt T w g h cap b cs) (i : Nat) : w.cell? ⟨g, i, none⟩ = (Value.slice (some ⟨h, 0, none⟩) b.length cap :: cs)[i]? := by
  rw [blk_cell k.blk i]; simp
theorem BAt.f (k : BAt T w g h cap b cs) (i : Nat) : w.frozen? ⟨g, i, none⟩ = false := blk_frozen k.blk i
theorem BAt.glt (k : BAt T w g h cap b cs) : g < w.heap.size := (Array.getElem?_eq_some_iff.1 k.blk).1

/-- Other cells of the struct. -/
theorem BAt.put {w' : World} {cs' : List Value} (k : BAt T w g h cap b cs) (hg : w'.heap[g]? = some (.cells (.slice (some ⟨h, 0, none⟩) b.length cap :: cs').toArray T (0, 0))) (hh : w'.heap[h]? = w.heap[h]?) (hz : w.heap.size ≤ w'.heap.size) : BAt T w' g h cap b cs' := by
  refine ⟨hg, k.ne, fun i hi => ?_, fun i hi => ?_, by have := k.lt; omega, k.le, k.small⟩
  · rw [World.cell?_of_block (w := w) (a := ⟨h, i, none⟩) hh, k.cell i hi]
  · rw [World.frozen?_of_block (w := w) (a := ⟨h, i, none⟩) hh]
    exact k.free i hi

theorem BAt.set (k : BAt T w g h cap b cs) (i : Nat) (u : Value) : BAt T (w.setCell ⟨g, i + 1, none⟩ u) g h cap b (cs.set i u) := by
  refine k.put ?_ (set_other _ _ k.ne.symm) (by simp [World.setCell])
  rw [set_heap k.blk (i + 1) u]
  simp [List.set_cons_succ]

theorem BAt.same {w' : World} (k : BAt T w g h cap b cs) (hw : w'.heap = w.heap) : BAt T w' g h cap b cs := k.put (by rw [hw]; exact k.blk) (by rw [hw]) (by rw [hw]; exact Nat.le_refl _)
theorem BAt.keep {w' : World} {g' h' : Nat} (k : BAt T w g h cap b cs) (o : Only g' h' w w') (h1 : g ≠ g') (h2 : g ≠ h') (h3 : h ≠ g') (h4 : h ≠ h') : BAt T w' g h cap b cs :=
  k.put ((o.block g k.glt h1 h2).trans k.blk) (o.block h k.lt h3 h4) o.size
theorem BAt.below {w' : World} (k : BAt T w g h cap b cs) (o : Below w.heap.size w w') : BAt T w' g h cap b cs :=
  k.put ((o.block g k.glt).trans k.blk) (o.block h k.lt) o.size

/-- Bytes pasted into the row. -/
theorem BAt.paste (k : BAt T w g h cap b cs) (a : Nat) (l : List UInt8) (hl : a + l.length ≤ b.length) {W : World} (hW : W.heap = w.heap) : BAt T (W.setCells h a (cellsU l)) g h cap (pasteL b a l) cs := by
  have hlen := pasteL_length hl
  have hcW : ∀ x, W.cell? x = w.cell? x := fun x => World.cell?_of_block (by rw [hW])
  refine ⟨?_, k.ne, fun i hi => ?_, fun i hi => ?_, ?_, by rw [hlen]; exact k.le, by rw [hlen]; exact k.small⟩
  · rw [heap_setCells_other k.ne, hW, k.blk, hlen]
  · have hi' : i < b.length := by omega
    have hg := pasteL_get hl i
    rw [List.getElem?_eq_getElem hi] at hg
    by_cases h1 : i < a
    · rw [World.cell?_setCells_out _ _ _ _ _ (fun _ _ => Or.inl h1), hcW, k.cell i hi']
      rw [if_pos h1, List.getElem?_eq_getElem hi'] at hg
      simp only [Option.some.injEq] at hg
      rw [hg]
    · by_cases h2 : i < a + l.length
      · have := World.cell?_setCells_in h (cellsU l) a W (fun j hj => by rw [cellsU_length] at hj; rw [hcW, k.cell _ (by omega)]; rfl) (i - a) (by rw [cellsU_length]; omega)
        rw [show a + (i - a) = i by omega] at this
        rw [this]
        rw [if_neg h1, if_pos h2, List.getElem?_eq_getElem (by omega)] at hg
        simp only [Option.some.injEq] at hg
        simp only [cellsU, List.getElem_map, hg]
      · rw [World.cell?_setCells_out _ _ _ _ _ (fun _ _ => Or.inr (by rw [cellsU_length]; simp; omega)), hcW, k.cell i hi']
        rw [if_neg h1, if_neg h2, List.getElem?_eq_getElem hi'] at hg
        simp only [Option.some.injEq] at hg
        rw [hg]
  · rw [World.frozen?_setCells, World.frozen?_of_block (w := w) (by rw [hW])]
    exact k.free i (by omega)
  · rw [size_setCells, hW]
    exact k.lt

theorem BAt.byte (k : BAt T w g h cap b cs) (a : Nat) (x : UInt8) (hl : a < b.length) : BAt T (w.setCell ⟨h, a, none⟩ (.int .u8 (x.toNat : Int))) g h cap (pasteL b a [x]) cs :=
  k.paste a [x] (by simp; omega) rfl
end

theorem pasteL_step {b l : List UInt8} {a k : Nat} (h : a + l.length ≤ b.length) (hk : k < l.length) : pasteL (pasteL b a (l.take k)) (a + k) [l[k]] = pasteL b a (l.take (k + 1)) := by
  have lk : (l.take k).length = k := by simp; omega
  have lk1 : (l.take (k + 1)).length = k + 1 := by simp; omega
  have lp : (pasteL b a (l.take k)).length = b.length := by rw [pasteL_length]; omega
  apply List.ext_getElem?
  intro i
  rw [pasteL_get (by rw [lp]; simp; omega), pasteL_get (by omega), pasteL_get (by omega), lk, lk1]
  simp only [List.length_singleton]
  by_cases c0 : i < a
  · rw [if_pos (by omega), if_pos c0, if_pos c0]
  · by_cases c1 : i < a + k
    · rw [if_pos c1, if_neg c0, if_pos c1, if_neg c0, if_pos (by omega), List.getElem?_take, List.getElem?_take, if_pos (by omega), if_pos (by omega)]
    · by_cases c2 : i < a + k + 1
      · rw [if_neg c1, if_pos c2, if_neg c0, if_pos (by omega), List.getElem?_take, if_pos (by omega), show i - (a + k) = 0 by omega, show i - a = k by omega]
        simp [hk]
      · rw [if_neg c1, if_neg c2, if_neg c0, if_neg c1, if_neg c0, if_neg (by omega)]
theorem pasteL_none (b : List UInt8) (a : Nat) : pasteL b a [] = b := by simp [pasteL]
theorem Only.cell {g h : Nat} {w w' : World} (o : Only g h w w') {p : Addr} {v : Value} (hc : w.cell? p = some v) (h1 : p.block ≠ g) (h2 : p.block ≠ h) : w'.cell? p = some v := by
  rw [World.cell?_of_block (w := w) (o.block p.block (World.block_lt_of_cell? _ _ hc) h1 h2), hc]

/-- 'string(b[a:][:m])'. -/
theorem cut_two {P : Program} (t e : TypeId) (ht : P.underlying t = some (.slice e)) (hs : (P.info? e).map (·.size) = some 1) (he : P.underlying e = some (.int .u8)) (h n c : Nat) (a m : Int) (h0 : 0 ≤ a) (h1 : 0 ≤ m) (hn : n ≤ c) (h2 : a + m ≤ n)
    (l : List UInt8) (hl : l.length = n) (w : World) (hc : ∀ i (hi : i < l.length), w.cell? ⟨h, i, none⟩ = some (.int .u8 (l[i].toNat : Int))) :
    ∃ A' : Option Addr, (∀ W : World, (Instr.slice t (.slice (some ⟨h, 0, none⟩) n c) (some (.int .i64 a)) none none).run P W = .ok (.slice A' (n - a.toNat) (c - a.toNat)) W) ∧
      (∀ W : World, (Instr.slice t (.slice A' (n - a.toNat) (c - a.toNat)) none (some (.int .i64 m)) none).run P W = .ok (.slice A' m.toNat (c - a.toNat)) W) ∧
      ∀ W : World, W.heap = w.heap → ∀ dst, P.underlying dst = some .string → (convert t dst (.slice A' m.toNat (c - a.toNat))).run P W = .ok (.string (ofL ((l.drop a.toNat).take m.toNat))) W := by
  have hel : P.elem t = e := by simp [Program.elem, ht]
  have hu : P.underlying t = some (.slice (P.elem t)) := by rw [hel]; exact ht
  refine ⟨_, cut_l t e ht hs h n c a h0 (by omega), fun W => ?_, fun W hW dst hd => ?_⟩
  · rw [run_slice_h W t _ (n - a.toNat) (c - a.toNat) hu .i64 m h1 (by omega)]
    obtain ⟨i, hi, hsz⟩ : ∃ i, P.info? e = some i ∧ i.size = 1 := by simpa using hs
    simp [sizeOf, typeInfo, hel, hi, hsz, sliced, Result.andThen]
    intro _
    simp [Addr.add]
  · have := run_convert_bytes_arg (P := P) W t e ht he h (if c = a.toNat then 0 else a.toNat) m.toNat (c - a.toNat) (numsOf ((l.drop a.toNat).take m.toNat)) (by simp [numsOf]; omega) (fun j hj => by
      have hne : c ≠ a.toNat := by omega
      rw [if_neg hne, World.cell?_of_block (w := w) (by rw [hW]), hc (a.toNat + j) (by omega)]
      simp [numsOf, List.getD, hj, show a.toNat + j < l.length by omega]) dst hd
    rw [this, strOf_nums]

theorem block_add (a : Addr) (n : Nat) : (a.add n).block = a.block := by unfold Addr.add; split <;> rfl

theorem add_field (ad : Addr) (m j : Nat) (hj : 0 < j) : ad.add (m + j) = ⟨(ad.add m).block, (ad.add m).off + j, none⟩ := by
  unfold Addr.add
  by_cases hm : m = 0
  · subst hm; simp; omega
  · have : ¬ m + j = 0 := by omega
    simp [hm, this]; omega

end Go.Proofs.YtjmdkhjfjlodmaaDoor
