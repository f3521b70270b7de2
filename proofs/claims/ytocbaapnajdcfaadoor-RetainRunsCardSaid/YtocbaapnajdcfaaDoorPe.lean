/- The walks of octets.Pen. -/
import Derived.Test.YtocbaapnajdcfaaDoorCb
import Derived.Lib.AppendStr
import Derived.Maps.AppendAt
namespace Go.Proofs.YtocbaapnajdcfaaDoor
open Go.RowKit
set_option linter.unusedVariables false
set_option linter.unusedSimpArgs false

/-- A pen in block g that has written l. -/
def PenAt (w : World) (g : Nat) (l : List UInt8) : Prop := ∃ v, w.heap[g]? = some (.cells #[v] 95 (0, 0)) ∧ w.ownsRow (g + 1) 5 1 v l.length (cellsU l)

theorem own_keep {w w' : World} {base : Nat} {e : TypeId} {size n : Nat} {v : Value} {xs : List Value} (h : w.ownsRow base e size v n xs) (hk : ∀ k, base ≤ k → k < w.heap.size → w'.heap[k]? = w.heap[k]?) : w'.ownsRow base e size v n xs := by
  refine ⟨h.1, ?_⟩
  rcases h.2 with ⟨rfl, rfl⟩ | ⟨g, cap, cur, rfl, hb, hh, h1⟩
  · exact .inl ⟨rfl, rfl⟩
  · exact .inr ⟨g, cap, cur, rfl, hb, (hk g hb (Array.getElem?_eq_some_iff.1 hh).1).trans hh, h1⟩
theorem own_row {w : World} {base : Nat} {e : TypeId} {size n : Nat} {v : Value} {xs : List Value} (h : w.ownsRow base e size v n xs) (k : Nat) (hk : k < base) : some k ≠ v.ownBlock := by
  rcases h.2 with ⟨rfl, _⟩ | ⟨g, cap, cur, rfl, hb, _⟩
  · simp [Value.ownBlock]
  · simp only [Value.ownBlock]
    intro he
    injection he with he
    omega
theorem below_grown {B : Nat} {a w w' : World} {row : Option Nat} (h : Below B a w) (hg : w.grownBy w' row) (hr : ∀ k, k < B → some k ≠ row) (hB : B ≤ w.heap.size) : Below B a w' :=
  h.trans ⟨hg.os, hg.tape, hg.output, hg.size, fun k hk => hg.block k (by omega) (hr k hk)⟩

theorem own_slice {w : World} {base : Nat} {e : TypeId} {size n : Nat} {v : Value} {xs : List Value} (h : w.ownsRow base e size v n xs) : ∃ A cap, v = .slice A n cap := by
  rcases h.2 with ⟨rfl, rfl⟩ | ⟨g, cap, cur, rfl, _⟩
  · exact ⟨_, _, rfl⟩
  · exact ⟨_, _, rfl⟩

theorem infoU8' : (Tryd.prog.info? 5).map (fun i => (i.zero, i.size, i.bytes)) = some (some (.int .u8 0), 1, 1) := by kernel_rfl

theorem PenAt.below {w w' : World} {g : Nat} {l : List UInt8} (k : PenAt w g l) {B : Nat} (hb : Below B w w') (hB : w.heap.size ≤ B) : PenAt w' g l := by
  obtain ⟨v, h1, h2⟩ := k
  exact ⟨v, (hb.block g (by have := (Array.getElem?_eq_some_iff.1 h1).1; omega)).trans h1, own_keep h2 fun k _ hk => hb.block k (by omega)⟩
theorem PenAt.lt {w : World} {g : Nat} {l : List UInt8} (k : PenAt w g l) : g < w.heap.size := by
  obtain ⟨v, h1, h2⟩ := k
  exact (Array.getElem?_eq_some_iff.1 h1).1

theorem new_u8 (w : World) (x : UInt8) : ∀ j u, [Value.int .u8 (x.toNat : Int)][j]? = some u → (w.alloc (.cells #[.int .u8 (x.toNat : Int)] 5)).cell? ((⟨w.heap.size, 0, none⟩ : Addr).add j) = some u := by
  intro j u h
  match j, h with
  | 0, h =>
    simp at h
    subst h
    exact blk_cell (heap_alloc_new w _) 0
theorem one_u8 (x : UInt8) : ∀ u ∈ [Value.int .u8 (x.toNat : Int)], u.oneCell' = true := by
  intro u hu
  simp at hu
  subst hu
  rfl

theorem pen_end {w w1 w2 : World} {g : Nat} {v v' : Value} {n : Nat} {xs : List Value} {l : List UInt8} (h1 : w.heap[g]? = some (.cells #[v] 95 (0, 0))) (h2 : w.ownsRow (g + 1) 5 1 v n xs) (hb : Below w.heap.size w w1)
    (ho : w2.ownsRow (g + 1) 5 1 v' l.length (cellsU l)) (hg : w1.grownBy w2 v.ownBlock) : PenAt (w2.setCell ⟨g, 0, none⟩ v') g l ∧ Below g w (w2.setCell ⟨g, 0, none⟩ v') := by
  have hlt := (Array.getElem?_eq_some_iff.1 h1).1
  have hgg : w2.heap[g]? = some (.cells #[v] 95 (0, 0)) := (hg.block g (Nat.lt_of_lt_of_le hlt hb.size) (own_row h2 g (by omega))).trans ((hb.block g hlt).trans h1)
  refine ⟨⟨v', set_heap hgg 0 v', own_keep ho fun k hk _ => set_other _ _ (by omega)⟩, ?_⟩
  exact (below_grown (hb.mono (Nat.le_of_lt hlt)) hg (fun k hk => own_row h2 k (by omega)) (Nat.le_trans (Nat.le_of_lt hlt) hb.size)).setCell (p := ⟨g, 0, none⟩) (Nat.le_refl _) _

set_option maxRecDepth 100000 in
set_option maxHeartbeats 400000 in
theorem penbyte_any {w : World} {g : Nat} {l : List UInt8} (k : PenAt w g l) (hl : l.length ≤ 1000) (x : UInt8) :
    Calls Tryd.prog 59 #[.pointer (some ⟨g, 0, none⟩), .int .u8 (x.toNat : Int)] w fun e w' => e = .returned (.pointer (some ⟨g, 0, none⟩)) ∧ PenAt w' g (l ++ [x]) ∧ Below g w w' := by
  obtain ⟨v, h1, h2⟩ := k
  obtain ⟨A, cap, rfl⟩ := own_slice h2
  obtain ⟨i0, hi, hz0, hz1, hz2⟩ := info_parts infoU8'
  have hlt := (Array.getElem?_eq_some_iff.1 h1).1
  have c0 : w.cell? ⟨g, 0, none⟩ = some (.slice A l.length cap) := blk_cell h1 0
  have hown : (w.alloc (.cells #[.int .u8 (x.toNat : Int)] 5)).ownsRow (g + 1) 5 1 (.slice A l.length cap) l.length (cellsU l) := h2.alloc _
  have H1 := hide h1; have H2 := hide h2; have HOWN := hide hown
  clear h1 h2 hown
  go_enter Tryd.func59, Tryd.ntmps59
  go_wp2_with (at_builtin; refine wpList_append_own _ rfl (.tmp 11) (.tmp 13) 28 rfl (g + 1) 5 i0 (.int .u8 0) 1 1 Tryd.underlying28 hi hz0 hz1 hz2 rfl (by decide) (.slice A l.length cap) l.length _ rfl HOWN.out ⟨w.heap.size, 0, none⟩ 1 1 _ rfl rfl (new_u8 _ _) (one_u8 _) (by unfold maxLen; omega) (by omega) (by simp; omega) ?_; intro v' w2 hown' hgrow2 hnil2; clear hnil2; obtain ⟨A', cap', rfl⟩ := own_slice hown'; have HOWN2 := hide hown'; clear hown'; have hgg : w2.cell? ⟨g, 0, none⟩ = some (.slice A l.length cap) := (by rw [World.cell?_of_block (hgrow2.block g (by simp; omega) (own_row H2.out g (by omega)))]; exact blk_cell (old_alloc H1.out _) 0); have hff : w2.frozen? ⟨g, 0, none⟩ = false := (by rw [World.frozen?_of_block (hgrow2.block g (by simp; omega) (own_row H2.out g (by omega)))]; exact blk_frozen (old_alloc H1.out _) 0))
  go_ret
  have hl2 : l.length + 1 = (l ++ [x]).length := by simp
  have hfin := pen_end (l := l ++ [x]) H1.out H2.out ((Below.refl _ _).alloc (Nat.le_refl _) _) (by rw [← hl2]; simpa [cellsU] using HOWN2.out) hgrow2
  exact ⟨rfl, hfin⟩

theorem strCells_cellsU (s : ByteArray) : Lib.strCells s = cellsU s.data.toList := by
  simp [Lib.strCells, cellsU]

set_option maxRecDepth 100000 in
set_option maxHeartbeats 400000 in
theorem pentext_any {w : World} {g : Nat} {l : List UInt8} (k : PenAt w g l) (hl : l.length ≤ 1000) (s : ByteArray) (hs : s.size ≤ 1000) :
    Calls Tryd.prog 44 #[.pointer (some ⟨g, 0, none⟩), .string s] w fun e w' => e = .returned (.pointer (some ⟨g, 0, none⟩)) ∧ PenAt w' g (l ++ s.data.toList) ∧ Below g w w' := by
  obtain ⟨v, h1, h2⟩ := k
  obtain ⟨A, cap, rfl⟩ := own_slice h2
  obtain ⟨i0, hi, hz0, hz1, hz2⟩ := info_parts infoU8'
  have hlt := (Array.getElem?_eq_some_iff.1 h1).1
  have c0 : w.cell? ⟨g, 0, none⟩ = some (.slice A l.length cap) := blk_cell h1 0
  have H1 := hide h1; have H2 := hide h2
  clear h1 h2
  go_enter Tryd.func44, Tryd.ntmps44
  go_wp2_with (at_builtin; refine Lib.wpList_append_own_string _ rfl (.tmp 11) (.tmp 12) 28 9 rfl (g + 1) 5 i0 Tryd.underlying28 Tryd.underlying9 hi hz0 hz1 hz2 (.slice A l.length cap) l.length _ rfl H2.out s rfl (by unfold maxLen; omega) (by omega) (by omega) ?_; intro v' w2 hown' hgrow2 hnil2; clear hnil2; obtain ⟨A', cap', rfl⟩ := own_slice hown'; have HOWN2 := hide hown'; clear hown'; have hgg : w2.cell? ⟨g, 0, none⟩ = some (.slice A l.length cap) := (by rw [World.cell?_of_block (hgrow2.block g (by omega) (own_row H2.out g (by omega)))]; exact blk_cell H1.out 0); have hff : w2.frozen? ⟨g, 0, none⟩ = false := (by rw [World.frozen?_of_block (hgrow2.block g (by omega) (own_row H2.out g (by omega)))]; exact blk_frozen H1.out 0))
  go_ret
  have hl2 : l.length + s.size = (l ++ s.data.toList).length := by rw [List.length_append, size_data]
  have hfin := pen_end (l := l ++ s.data.toList) H1.out H2.out (Below.refl _ _) (by rw [← hl2]; have := HOWN2.out; rw [strCells_cellsU] at this; simpa [cellsU] using this) hgrow2
  exact ⟨rfl, hfin⟩

set_option maxRecDepth 100000 in
set_option maxHeartbeats 400000 in
theorem pentwo_any {w : World} {g : Nat} {l : List UInt8} (k : PenAt w g l) (hl : l.length ≤ 900) (n : Nat) (hn : n < 65536) :
    Calls Tryd.prog 42 #[.pointer (some ⟨g, 0, none⟩), .int .u16 n] w fun e w' => e = .returned (.pointer (some ⟨g, 0, none⟩)) ∧ PenAt w' g (l ++ [UInt8.ofNat (n / 256), UInt8.ofNat (n % 256)]) ∧ Below g w w' := by
  have w1 : IntKind.u8.wrap ((n : Int) / 256) = ((UInt8.ofNat (n / 256)).toNat : Int) := by rw [IntKind.wrap_u8']; simp <;> omega
  have w2 : IntKind.u8.wrap (n : Int) = ((UInt8.ofNat (n % 256)).toNat : Int) := by rw [IntKind.wrap_u8']; simp
  generalize UInt8.ofNat (n / 256) = x at *
  generalize UInt8.ofNat (n % 256) = y at *
  have HC := hide (penbyte_any k (by omega) x)
  clear k
  go_enter Tryd.func42, Tryd.ntmps42
  go_wp2_with fail
  refine HC.out.mono ?_
  rintro e w3 ⟨rfl, k3, b3⟩
  have HC2 := hide (penbyte_any k3 (by simp; omega) y)
  have B3 := hide b3
  clear k3 b3
  go_wp2_with fail
  refine HC2.out.mono ?_
  rintro e w4 ⟨rfl, k4, b4⟩
  rw [List.append_assoc] at k4
  go_wp2_with fail
  go_ret
  exact ⟨rfl, k4, B3.out.trans b4⟩

set_option maxRecDepth 100000 in
set_option maxHeartbeats 400000 in
theorem penfour_any {w : World} {g : Nat} {l : List UInt8} (k : PenAt w g l) (hl : l.length ≤ 800) (n : Nat) (hn : n < 4294967296) :
    Calls Tryd.prog 41 #[.pointer (some ⟨g, 0, none⟩), .int .u32 n] w fun e w' => e = .returned (.pointer (some ⟨g, 0, none⟩)) ∧ PenAt w' g (l ++ beL n 4) ∧ Below g w w' := by
  have w1 : IntKind.u16.wrap ((n : Int) / 65536) = ((n / 65536 : Nat) : Int) := by rw [IntKind.wrap_u16]; omega
  have w2 : IntKind.u16.wrap (n : Int) = ((n % 65536 : Nat) : Int) := by rw [IntKind.wrap_u16]; omega
  have hbe : beL n 4 = [UInt8.ofNat (n / 65536 / 256), UInt8.ofNat (n / 65536 % 256)] ++ [UInt8.ofNat (n % 65536 / 256), UInt8.ofNat (n % 65536 % 256)] := by
    have e1 : n / 256 ^ 3 % 256 = n / 65536 / 256 := by omega
    have e2 : n / 256 ^ 2 % 256 = n / 65536 % 256 := by omega
    have e3 : n / 256 ^ 1 % 256 = n % 65536 / 256 := by omega
    have e4 : n / 256 ^ 0 % 256 = n % 65536 % 256 := by omega
    simp only [beL, e1, e2, e3, e4]
    rfl
  rw [hbe]
  have HC := hide (pentwo_any k (by omega) (n / 65536) (by omega))
  obtain ⟨X, hX⟩ : ∃ X, [UInt8.ofNat (n / 65536 / 256), UInt8.ofNat (n / 65536 % 256)] = X ∧ X.length = 2 := ⟨_, rfl, rfl⟩
  have hN := HC.out
  rw [hX.1] at HC ⊢
  have hX2 := hX.2
  generalize n / 65536 = a at *
  have hb : n % 65536 < 65536 := by omega
  generalize n % 65536 = b at *
  clear k hX hbe hN
  go_enter Tryd.func41, Tryd.ntmps41
  go_wp2_with fail
  refine HC.out.mono ?_
  rintro e w3 ⟨rfl, k3, b3⟩
  have HC2 := hide (pentwo_any k3 (by simp; omega) b hb)
  have B3 := hide b3
  clear k3 b3
  go_wp2_with fail
  refine HC2.out.mono ?_
  rintro e w4 ⟨rfl, k4, b4⟩
  rw [List.append_assoc] at k4
  go_wp2_with fail
  go_ret
  exact ⟨rfl, k4, B3.out.trans b4⟩

set_option maxRecDepth 100000 in
set_option maxHeartbeats 400000 in
theorem pensmall_any {w : World} {g : Nat} {l : List UInt8} (k : PenAt w g l) (hl : l.length ≤ 800) (s : ByteArray) (hs : s.size ≤ 64) :
    Calls Tryd.prog 43 #[.pointer (some ⟨g, 0, none⟩), .string s] w fun e w' => e = .returned (.bool true) ∧ PenAt w' g (l ++ (beL s.size 1 ++ s.data.toList)) ∧ Below g w w' := by
  have hbe : beL s.size 1 = [UInt8.ofNat s.size] := by
    simp only [beL, Nat.pow_zero, Nat.div_one]
    congr 2
    omega
  rw [hbe]
  have w1 : IntKind.u8.wrap (s.size : Int) = ((UInt8.ofNat s.size).toNat : Int) := by rw [IntKind.wrap_u8']; simp
  have hi : (s.size : Int) ≤ 255 := by omega
  generalize UInt8.ofNat s.size = x at *
  have HC := hide (penbyte_any k (by omega) x)
  clear k hbe
  go_enter Tryd.func43, Tryd.ntmps43
  go_wp2_with fail
  refine HC.out.mono ?_
  rintro e w3 ⟨rfl, k3, b3⟩
  have HC2 := hide (pentext_any k3 (by simp; omega) s (by omega))
  have B3 := hide b3
  clear k3 b3
  go_wp2_with fail
  refine HC2.out.mono ?_
  rintro e w4 ⟨rfl, k4, b4⟩
  rw [List.append_assoc] at k4
  go_wp2_with fail
  go_ret
  exact ⟨rfl, k4, B3.out.trans b4⟩

set_option maxRecDepth 100000 in
set_option maxHeartbeats 400000 in
theorem penstring_any {w : World} {g : Nat} {l : List UInt8} (k : PenAt w g l) (h0 : 0 < l.length) :
    Calls Tryd.prog 47 #[.pointer (some ⟨g, 0, none⟩)] w fun e w' => e = .returned (.string (ofL l)) ∧ w = w' := by
  obtain ⟨v, h1, h2⟩ := k
  obtain ⟨b, cap, rfl, hcells⟩ : ∃ b cap, v = .slice (some ⟨b, 0, none⟩) l.length cap ∧ ∀ j u, (cellsU l)[j]? = some u → w.cell? ⟨b, j, none⟩ = some u := by
    rcases h2.2 with ⟨rfl, hn⟩ | ⟨b, cap, cur, rfl, hb, hh, h3⟩
    · omega
    · refine ⟨b, cap, rfl, fun j u hj => ?_⟩
      have := h2.cells (g := b) rfl j u hj
      rwa [Addr.add_mid, Nat.zero_add] at this
  have c0 : w.cell? ⟨g, 0, none⟩ = some (.slice (some ⟨b, 0, none⟩) l.length cap) := blk_cell h1 0
  have hcv := run_convert_bytes_arg (P := Tryd.prog) w 28 5 Tryd.underlying28 Tryd.underlying5 b 0 l.length cap (numsOf l) (by simp [numsOf]) (fun j hj => by
    rw [Nat.zero_add, hcells j (.int .u8 ((numsOf l).getD j 0)) ?_]
    have hj2 : j < l.length := hj
    simp [cellsU, numsOf, hj2]) 9 Tryd.underlying9
  rw [strOf_nums] at hcv
  clear hcells h1 h2
  go_enter Tryd.func47, Tryd.ntmps47
  go_wp2
  go_ret
  exact ⟨rfl, rfl⟩

set_option maxRecDepth 100000 in
set_option maxHeartbeats 400000 in
theorem newpen_any (w : World) : Calls Tryd.prog 40 #[] w fun e w' => e = .returned (.pointer (some ⟨w.heap.size, 0, none⟩)) ∧ PenAt w' w.heap.size [] ∧ Below w.heap.size w w' := by
  go_enter Tryd.func40, Tryd.ntmps40
  go_wp2
  go_ret
  exact ⟨rfl, ⟨_, heap_alloc_new w _, World.ownsRow_nil _ _ _ _⟩, (Below.refl _ _).alloc (Nat.le_refl _) _⟩
end Go.Proofs.YtocbaapnajdcfaaDoor
