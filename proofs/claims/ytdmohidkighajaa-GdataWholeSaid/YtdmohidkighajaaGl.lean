/- The walks of package parts: a glue in memory, and what each method does to it. -/
import Derived.Test.YtdmohidkighajaaBl
namespace Go.Proofs.Ytdmohidkighajaa
open Go.RowKit
set_option linter.unusedVariables false
set_option linter.unusedSimpArgs false

/-- A frame's fields. -/
structure Fr where
  kind : Int
  src : Int
  dst : Int
  srcInc : Int
  dstInc : Int
  ec : Int
  ea : Int
  ei : Int
  hop : Int
  hc : Int
  ha : Int
  hi : Int
  wants : Bool
  block : Int
  vi : Int
  vs : Int
  part : Int
  parts : Int
  bytes : ByteArray

/-- Its cells. -/
def frV (f : Fr) : Array Value := #[.int .i64 f.kind, .int .u8 f.src, .int .u8 f.dst, .int .u16 f.srcInc, .int .u16 f.dstInc, .int .u16 f.ec, .int .u8 f.ea, .int .u16 f.ei, .int .u16 f.hop, .int .u16 f.hc, .int .u8 f.ha, .int .u16 f.hi, .bool f.wants, .int .u8 f.block, .int .u16 f.vi, .int .u32 f.vs, .int .u8 f.part, .int .u8 f.parts, .string f.bytes]

/-- What Put asks of a frame's numbers. -/
structure FrOk (f : Fr) : Prop where
  part : 0 ≤ f.part ∧ f.part ≤ 255
  parts : 0 ≤ f.parts ∧ f.parts ≤ 255
  bytes : f.bytes.size ≤ 140737488351232

/-- A glue's state. -/
structure Gl where
  value : List UInt8
  vi : Int
  vs : Int
  is : Bool
  came : Int
  n : Int

abbrev GAt (w : World) (g h cap : Nat) (s : Gl) : Prop := BAt 92 w g h cap s.value [.int .u16 s.vi, .int .u32 s.vs, .bool s.is, .int .u8 s.came, .int .i64 s.n]

theorem fr_box (w : World) (f : Fr) (i : Nat) : (w.alloc (.cells (frV f) 36)).cell? ⟨w.heap.size, i, none⟩ = (frV f)[i]? := blk_cell (heap_alloc_new w _) i

/-- Does a frame fit a value of a size? -/
def fitsP (n : Int) (f : Fr) : Prop := f.parts = nParts n ∧ 0 < pLen n f.part ∧ (f.bytes.size : Int) = pLen n f.part

/-- The world behind the box of a frame. -/
structure FBox (w w1 : World) (p : Nat) (f : Fr) : Prop where
  blk : w1.heap[p]? = some (.cells (frV f) 36 (0, 0))
  bw : Below p w w1
  sz : w.heap.size = p

theorem fbox (w : World) (f : Fr) : FBox w (w.alloc (.cells (frV f) 36)) w.heap.size f := ⟨heap_alloc_new w _, (Below.refl _ _).alloc (Nat.le_refl _) _, rfl⟩
theorem FBox.c {w w1 : World} {p : Nat} {f : Fr} (b : FBox w w1 p f) (i : Nat) : w1.cell? ⟨p, i, none⟩ = (frV f)[i]? := blk_cell b.blk i
theorem FBox.part {w w1 : World} {p : Nat} {f : Fr} (b : FBox w w1 p f) : w1.cell? ⟨p, 16, none⟩ = some (.int .u8 f.part) := b.c 16
theorem FBox.parts {w w1 : World} {p : Nat} {f : Fr} (b : FBox w w1 p f) : w1.cell? ⟨p, 17, none⟩ = some (.int .u8 f.parts) := b.c 17
theorem FBox.bytes {w w1 : World} {p : Nat} {f : Fr} (b : FBox w w1 p f) : w1.cell? ⟨p, 18, none⟩ = some (.string f.bytes) := b.c 18
theorem FBox.kind {w w1 : World} {p : Nat} {f : Fr} (b : FBox w w1 p f) : w1.cell? ⟨p, 0, none⟩ = some (.int .i64 f.kind) := b.c 0
theorem FBox.vi {w w1 : World} {p : Nat} {f : Fr} (b : FBox w w1 p f) : w1.cell? ⟨p, 14, none⟩ = some (.int .u16 f.vi) := b.c 14
theorem FBox.vs {w w1 : World} {p : Nat} {f : Fr} (b : FBox w w1 p f) : w1.cell? ⟨p, 15, none⟩ = some (.int .u32 f.vs) := b.c 15
theorem GAt.boxed {w : World} {g h cap : Nat} {s : Gl} (k : GAt w g h cap s) (f : Fr) : GAt (w.alloc (.cells (frV f) 36)) g h cap s := k.below ((Below.refl _ _).alloc (Nat.le_refl _) _)
theorem pLen_le (n p : Int) : 0 ≤ pLen n p ∧ pLen n p ≤ 16 := by
  unfold pLen
  split
  · rename_i h
    have hn : 1 ≤ n ∧ n ≤ 64 := by
      apply Classical.byContradiction
      intro hh
      rw [nParts_no hh] at h
      omega
    rw [nParts_yes hn.1 hn.2] at h
    omega
  · omega

set_option maxHeartbeats 400000 in
theorem fits_any {w : World} {g h cap : Nat} {s : Gl} (k : GAt w g h cap s) (f : Fr) (ok : FrOk f) (b : Bool) (hb : b = true ↔ fitsP s.value.length f) :
    Calls Try.prog 41 #[.pointer (some ⟨g, 0, none⟩), .agg (frV f)] w fun e w' => e = .returned (.bool b) ∧ Below w.heap.size w w' := by
  have FB := hide (fbox w f)
  have KB := hide (k.boxed f)
  have HB := hide hb
  have sm := k.small
  have p1 := ok.part.1
  have p2 := ok.part.2
  have q1 := ok.parts.1
  have q2 := ok.parts.2
  have l1 := (pLen_le s.value.length f.part).1
  have l2 := (pLen_le s.value.length f.part).2
  clear k hb
  go_enter Try.func41, Try.ntmps41
  go_wp2_with fail
  have fb := FB.out
  have k := KB.out
  clear FB KB
  generalize w.alloc (.cells (frV f) 36) = w1 at fb k ⊢
  generalize w.heap.size = p at fb k ⊢
  have c0 : w1.cell? ⟨g, 0, none⟩ = some (.slice (some ⟨h, 0, none⟩) s.value.length cap) := k.c 0
  have d1 := fb.part
  have d2 := fb.parts
  have d3 := fb.bytes
  have FB := hide fb
  clear k fb
  go_quiet ((go_at_call 40; exact quiet_left (piece_any _ _ (by omega) _)))
  have c0 : (w1.drewN nq).cell? ⟨g, 0, none⟩ = some (.slice (some ⟨h, 0, none⟩) s.value.length cap) := c0
  have d2 : (w1.drewN nq).cell? ⟨p, 17, none⟩ = some (.int .u8 f.parts) := d2
  have d3 : (w1.drewN nq).cell? ⟨p, 18, none⟩ = some (.string f.bytes) := d3
  have bw : Below w.heap.size w (w1.drewN nq) := by have := FB.out.bw; rw [← FB.out.sz] at this; exact ⟨this.os, this.tape, this.output, this.size, this.block⟩
  generalize w1.drewN nq = w2 at c0 d2 d3 bw ⊢
  have BW := hide bw
  have hwp : IntKind.i64.wrap f.parts = f.parts := IntWalk.i64_in _ (by omega)
  clear bw FB
  go_wp2_with fail
  by_cases h1 : f.parts = nParts s.value.length
  · have h1b : (f.parts == nParts s.value.length) = true := by simpa using h1
    have H1 := hide h1
    clear h1
    by_cases h2 : 0 < pLen s.value.length f.part
    · by_cases h3 : (f.bytes.size : Int) = pLen s.value.length f.part
      · have h3b : ((f.bytes.size : Int) == pLen s.value.length f.part) = true := by simpa using h3
        have H3 := hide h3
        clear h3
        obtain rfl : b = true := HB.out.2 ⟨H1.out, h2, H3.out⟩
        go_quiet ((go_at_call 26; exact quiet_left (parts_any _ _)))
        go_wp2
        go_ret
        exact ⟨rfl, ⟨BW.out.os, BW.out.tape, BW.out.output, BW.out.size, BW.out.block⟩⟩
      · have h3b : ((f.bytes.size : Int) == pLen s.value.length f.part) = false := by simpa using h3
        obtain rfl : b = false := by cases b; rfl; exact absurd (HB.out.1 rfl).2.2 h3
        clear h3
        go_quiet ((go_at_call 26; exact quiet_left (parts_any _ _)))
        go_wp2
        go_ret
        exact ⟨rfl, ⟨BW.out.os, BW.out.tape, BW.out.output, BW.out.size, BW.out.block⟩⟩
    · have h2b : decide (0 < pLen s.value.length f.part) = false := by simpa using h2
      obtain rfl : b = false := by cases b; rfl; exact absurd (HB.out.1 rfl).2.1 h2
      clear h2
      go_quiet ((go_at_call 26; exact quiet_left (parts_any _ _)))
      go_wp2
      go_ret
      exact ⟨rfl, ⟨BW.out.os, BW.out.tape, BW.out.output, BW.out.size, BW.out.block⟩⟩
  · have h1b : (f.parts == nParts s.value.length) = false := by simpa using h1
    obtain rfl : b = false := by cases b; rfl; exact absurd (HB.out.1 rfl).1 h1
    clear h1
    go_quiet ((go_at_call 26; exact quiet_left (parts_any _ _)))
    go_wp2
    go_ret
    exact ⟨rfl, ⟨BW.out.os, BW.out.tape, BW.out.output, BW.out.size, BW.out.block⟩⟩

theorem GAt.c0 {w : World} {g h cap : Nat} {s : Gl} (k : GAt w g h cap s) : w.cell? ⟨g, 0, none⟩ = some (.slice (some ⟨h, 0, none⟩) s.value.length cap) := k.c 0
theorem GAt.c1 {w : World} {g h cap : Nat} {s : Gl} (k : GAt w g h cap s) : w.cell? ⟨g, 1, none⟩ = some (.int .u16 s.vi) := k.c 1
theorem GAt.c2 {w : World} {g h cap : Nat} {s : Gl} (k : GAt w g h cap s) : w.cell? ⟨g, 2, none⟩ = some (.int .u32 s.vs) := k.c 2
theorem GAt.c3 {w : World} {g h cap : Nat} {s : Gl} (k : GAt w g h cap s) : w.cell? ⟨g, 3, none⟩ = some (.bool s.is) := k.c 3
theorem GAt.c4 {w : World} {g h cap : Nat} {s : Gl} (k : GAt w g h cap s) : w.cell? ⟨g, 4, none⟩ = some (.int .u8 s.came) := k.c 4
theorem GAt.c5 {w : World} {g h cap : Nat} {s : Gl} (k : GAt w g h cap s) : w.cell? ⟨g, 5, none⟩ = some (.int .i64 s.n) := k.c 5

set_option maxHeartbeats 400000 in
theorem begin_any {w : World} {g h cap : Nat} {s : Gl} (k : GAt w g h cap s) (i q : Int) :
    Calls Try.prog 43 #[.pointer (some ⟨g, 0, none⟩), .agg #[.int .u16 i, .int .u32 q]] w fun e w' => e = .returned (.tuple #[]) ∧
      GAt w' g h cap { s with vi := i, vs := q, is := true, came := 0, n := 0 } ∧ Only g h w w' := by
  have k0 : GAt (w.alloc (.cells #[.int .u16 i, .int .u32 q] 34)) g h cap s := k.below ((Below.refl _ _).alloc (Nat.le_refl _) _)
  have o0 : Only g h w (w.alloc (.cells #[.int .u16 i, .int .u32 q] 34)) := ⟨rfl, rfl, rfl, by simp, fun k hk _ _ => Below.heap_alloc _ _ _ hk⟩
  have v0 : (w.alloc (.cells #[.int .u16 i, .int .u32 q] 34)).cell? ⟨w.heap.size, 0, none⟩ = some (.int .u16 i) := blk_cell (heap_alloc_new w _) 0
  have v1 : (w.alloc (.cells #[.int .u16 i, .int .u32 q] 34)).cell? ⟨w.heap.size, 1, none⟩ = some (.int .u32 q) := blk_cell (heap_alloc_new w _) 1
  have c1 := k0.c1
  have c2 := k0.c2
  have c3 := k0.c3
  have c4 := k0.c4
  have c5 := k0.c5
  have f1 := k0.f 1
  have f2 := k0.f 2
  have f3 := k0.f 3
  have f4 := k0.f 4
  have f5 := k0.f 5
  have K0 := hide k0; have O0 := hide o0
  clear k k0 o0
  go_enter Try.func43, Try.ntmps43
  go_wp2
  go_end0
  exact ⟨rfl, ((((K0.out.set 0 (.int .u16 i)).set 1 (.int .u32 q)).set 2 (.bool true)).set 3 (.int .u8 0)).set 4 (.int .i64 0), ((((O0.out.set g 1 _ (.inl rfl)).set g 2 _ (.inl rfl)).set g 3 _ (.inl rfl)).set g 4 _ (.inl rfl)).set g 5 _ (.inl rfl)⟩

/-- A new glue. -/
def GMade (w : World) (s : Gl) (e : Ending) (w' : World) : Prop :=
  ∃ g h cap, e = .returned (.pointer (some ⟨g, 0, none⟩)) ∧ GAt w' g h cap s ∧ w.heap.size ≤ g ∧ w.heap.size ≤ h ∧ Below w.heap.size w w'

theorem info_u8 : (Try.prog.info? 5).map (fun i => (i.zero, i.size, i.bytes)) = some (some (.int .u8 0), 1, 1) := by kernel_rfl

set_option maxHeartbeats 400000 in
theorem gnew_no (w : World) (n : Int) (hn : ¬ (1 ≤ n ∧ n ≤ 64)) :
    Calls Try.prog 27 #[.int .i64 n] w fun e w' => e = .returned (.pointer none) ∧ w = w' := by
  have h0 := nParts_no hn
  have H0 := hide h0
  clear hn h0
  go_enter Try.func27, Try.ntmps27
  go_wp2_with (go_at_call 26; refine (parts_any n _).mono ?_; rw [H0.out]; rintro e w' ⟨rfl, rfl⟩)
  go_ret
  exact ⟨rfl, rfl⟩

set_option maxHeartbeats 400000 in
theorem gnew_yes (w : World) (n : Nat) (h1 : 1 ≤ n) (h2 : n ≤ 64) :
    Calls Try.prog 27 #[.int .i64 n] w (GMade w { value := List.replicate n 0, vi := 0, vs := 0, is := false, came := 0, n := 0 }) := by
  have h0 := nParts_yes (n := n) (by omega) (by omega)
  obtain ⟨q, hq, hq1⟩ : ∃ q : Int, nParts n = q ∧ 1 ≤ q := ⟨_, rfl, by omega⟩
  have hq2 : (q == 0) = false := by simp; omega
  have HQ := hide hq
  have hmk := make_u8 23 5 Try.underlying23 info_u8 n (by omega)
  clear h0 hq
  go_enter Try.func27, Try.ntmps27
  go_wp2_with (go_at_call 26; refine (parts_any n _).mono ?_; rw [HQ.out]; rintro e w' ⟨rfl, rfl⟩)
  go_ret
  clear hmk
  have hb0 := old_alloc (heap_alloc_new w (.cells (madeCells #[.int .u8 0] n) 5)) (.cells #[.slice (some ⟨w.heap.size, 0, none⟩) n n, .int .u16 0, .int .u32 0, .bool false, .int .u8 0, .int .i64 0] 92)
  refine ⟨w.heap.size + 1, w.heap.size, n, rfl, ⟨?_, by omega, fun i hi => ?_, fun i hi => ?_, by simp; omega, by simp, by simp; omega⟩, by omega, by omega, ?_⟩
  · simp only [List.length_replicate]
    exact new_alloc _ trivial (by simp)
  · simp at hi
    rw [blk_cell hb0, madeCells_get _ _ _ (by omega)]
    simp
  · exact blk_frozen hb0 i
  · exact ((Below.refl _ _).alloc (Nat.le_refl _) _).alloc (by simp) _

set_option maxHeartbeats 400000 in
theorem put_nil (w : World) (f : Fr) :
    Calls Try.prog 31 #[.pointer none, .agg (frV f)] w fun e w' => e = .returned (.tuple #[.string ⟨#[]⟩, .bool false, .int .i64 1]) ∧ Below w.heap.size w w' := by
  go_enter Try.func31, Try.ntmps31
  go_wp2
  go_ret3
  exact ⟨rfl, (Below.refl _ _).alloc (Nat.le_refl _) _⟩
end Go.Proofs.Ytdmohidkighajaa
