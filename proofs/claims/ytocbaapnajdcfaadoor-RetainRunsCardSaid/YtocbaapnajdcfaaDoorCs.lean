/- The walks of the reference of layer 7: Slot, Whole, Newest. -/
import Derived.Test.YtocbaapnajdcfaaDoorCe
namespace Go.Proofs.YtocbaapnajdcfaaDoor
open Go.RowKit
set_option linter.unusedVariables false
set_option linter.unusedSimpArgs false

/-- A record. -/
structure Rec where
  seq : Nat
  inc : Nat
  data : List UInt8
deriving DecidableEq

structure Rec.ok (r : Rec) : Prop where
  seq : r.seq < 4294967296
  inc : r.inc < 65536
  data : r.data.length ≤ 64

def Rec.zero : Rec := ⟨0, 0, []⟩
def Rec.v (r : Rec) : Array Value := #[.int .u32 r.seq, .int .u16 r.inc, .string (ofL r.data)]
def headL (r : Rec) : List UInt8 := beL r.seq 4 ++ beL r.inc 2 ++ beL r.data.length 1 ++ r.data
/-- A slot's bytes without the mark and the sum. -/
def baseL (r : Rec) : List UInt8 := headL r ++ List.replicate (64 - r.data.length) 0
def slotL (r : Rec) : List UInt8 := Crc.sealL (baseL r)
theorem headL_length (r : Rec) : (headL r).length = 7 + r.data.length := by simp [headL, beL_length]; omega
theorem baseL_length {r : Rec} (h : r.ok) : (baseL r).length = 71 := by have := h.data; simp [baseL, headL_length]; omega
theorem slotL_length {r : Rec} (h : r.ok) : (slotL r).length = 73 := by simp [slotL, Crc.sealL, baseL_length h]


abbrev BS (w w' : World) : Prop := (∀ b o, b < w.heap.size → w'.cell? ⟨b, o, none⟩ = w.cell? ⟨b, o, none⟩) ∧ Below w.heap.size w w'
theorem BS.of {w w' : World} (h : Below w.heap.size w w') : BS w w' := ⟨fun b o hb => h.cell (p := ⟨b, o, none⟩) hb, h⟩
theorem BS.go {w W W' : World} (h : BS w W) (b : Below W.heap.size W W') : BS w W' := BS.of (h.2.trans (b.mono h.2.size))
theorem below_drewN {B : Nat} {a w : World} (h : Below B a w) (n : Nat) : Below B a (w.drewN n) := ⟨h.os, h.tape, h.output, h.size, h.block⟩
theorem BS.drew (w : World) : BS w w.drew := BS.of (below_drewN (Below.refl _ _) 1)

theorem rbytes4 (n : Nat) (hn : n < 4294967296) (w : World) : Calls Tryd.prog 22 #[.int .u32 n, .int .i64 4] w fun e w' => e = .returned (.string (ofL (beL n 4))) ∧ Below w.heap.size w w' := rbytes_any n 4 hn (by decide) w
theorem rbytes2 (n : Nat) (hn : n < 4294967296) (w : World) : Calls Tryd.prog 22 #[.int .u32 n, .int .i64 2] w fun e w' => e = .returned (.string (ofL (beL n 2))) ∧ Below w.heap.size w w' := rbytes_any n 2 hn (by decide) w
theorem rbytes1 (n : Nat) (hn : n < 4294967296) (w : World) : Calls Tryd.prog 22 #[.int .u32 n, .int .i64 1] w fun e w' => e = .returned (.string (ofL (beL n 1))) ∧ Below w.heap.size w w' := rbytes_any n 1 hn (by decide) w

def PadRel (h : List UInt8) (v : Value) : Prop := ∃ j : Nat, h.length + j ≤ 71 ∧ v = .string (ofL (h ++ List.replicate j 0))
def padM (v : Value) : Nat := match v with
  | .string s => 71 - s.size
  | _ => 0

set_option maxRecDepth 100000 in
set_option maxHeartbeats 1000000 in
theorem rslot_any (r : Rec) (ok : r.ok) (w : World) : Calls Tryd.prog 8 #[.agg r.v] w fun e w' => e = .returned (.string (ofL (slotL r))) ∧ Below w.heap.size w w' := by
  have s0 := ok.seq
  have s1 : r.inc < 4294967296 := by have := ok.inc; omega
  have s2 : r.data.length < 4294967296 := by have := ok.data; omega
  have s3 := ok.data
  have w1 : IntKind.u32.wrap (r.inc : Int) = (r.inc : Int) := by rw [IntKind.wrap_u32']; omega
  have w2 : IntKind.u32.wrap ((ofL r.data).size : Int) = (r.data.length : Int) := by rw [ofL_size, IntKind.wrap_u32']; omega
  have z1 : (ofL (beL r.seq 4)).size ≤ 4 := by rw [ofL_size, beL_length]; exact Nat.le_refl _
  have z2 : (ofL (beL r.inc 2)).size ≤ 2 := by rw [ofL_size, beL_length]; exact Nat.le_refl _
  have z3 : (ofL (beL r.data.length 1)).size ≤ 1 := by rw [ofL_size, beL_length]; exact Nat.le_refl _
  have z4 : (ofL r.data).size ≤ 64 := by rw [ofL_size]; exact s3
  have z5 : (ofL (beL r.seq 4) ++ ofL (beL r.inc 2)).size ≤ 6 := by rw [ByteArray.size_append]; omega
  have z6 : (ofL (beL r.seq 4) ++ ofL (beL r.inc 2) ++ ofL (beL r.data.length 1)).size ≤ 7 := by rw [ByteArray.size_append]; omega
  have q1 : (9223372036854775807 < (ofL (beL r.seq 4)).size + (ofL (beL r.inc 2)).size) = False := eq_false (by omega)
  have q2 : (9223372036854775807 < (ofL (beL r.seq 4)).size + (ofL (beL r.inc 2)).size + (ofL (beL r.data.length 1)).size) = False := eq_false (by omega)
  have q3 : (9223372036854775807 < (ofL (beL r.seq 4)).size + (ofL (beL r.inc 2)).size + (ofL (beL r.data.length 1)).size + (ofL r.data).size) = False := eq_false (by omega)
  clear z1 z2 z3 z5 z6
  have hcat : ofL (beL r.seq 4) ++ ofL (beL r.inc 2) ++ ofL (beL r.data.length 1) ++ ofL r.data = ofL (headL r) := by
    apply ofL_eq
    simp only [data_append, ofL_data, headL]
  have hb0 := heap_alloc_new w (.cells r.v 25)
  have hbw : Below w.heap.size w (w.alloc (.cells r.v 25)) := (Below.refl _ _).alloc (Nat.le_refl _) _
  have OK := hide ok
  have HB0 := hide hb0
  have HBW := hide hbw
  clear ok hb0 hbw
  unfold Rec.v
  go_enter Tryd.func8, Tryd.ntmps8
  go_wp2_with fail
  have hb0 := HB0.out
  have hbw := HBW.out
  unfold Rec.v at hb0 hbw
  generalize w.alloc (.cells #[.int .u32 r.seq, .int .u16 r.inc, .string (ofL r.data)] 25) = W at hb0 hbw ⊢
  have c0 : W.cell? ⟨w.heap.size, 0, none⟩ = some (.int .u32 r.seq) := blk_cell hb0 0
  have c1 : W.cell? ⟨w.heap.size, 1, none⟩ = some (.int .u16 r.inc) := blk_cell hb0 1
  have c2 : W.cell? ⟨w.heap.size, 2, none⟩ = some (.string (ofL r.data)) := blk_cell hb0 2
  have hlt : w.heap.size < W.heap.size := (Array.getElem?_eq_some_iff.1 hb0).1
  have HBW := hide hbw
  clear hb0 hbw HB0
  go_region_held3 (fun w' => (∀ b o, b < W.heap.size → w'.cell? ⟨b, o, none⟩ = W.cell? ⟨b, o, none⟩) ∧ Below W.heap.size W w')
    (first | exact BS.drew _ | assumption | exact BS.go (by assumption) (by assumption))
    (first
      | (go_at_call 22; (with_reducible refine (rbytes4 _ (by assumption) _).mono ?_); rintro e w' ⟨rfl, hbw⟩)
      | (go_at_call 22; (with_reducible refine (rbytes2 _ (by assumption) _).mono ?_); rintro e w' ⟨rfl, hbw⟩)
      | (go_at_call 22; (with_reducible refine (rbytes1 _ (by assumption) _).mono ?_); rintro e w' ⟨rfl, hbw⟩))
  obtain ⟨_, hB⟩ := ‹(∀ b o, b < W.heap.size → _) ∧ Below W.heap.size W _›
  have HB := hide (HBW.out.trans (hB.mono HBW.out.size))
  have hl := headL_length r
  have hbl := baseL_length OK.out
  have hbd : baseL r = headL r ++ List.replicate (64 - r.data.length) 0 := rfl
  have hsd : slotL r = Crc.sealL (baseL r) := rfl
  clear hB c0 c1 c2 HBW q1 q2 q3 w1 w2 s0 s1 s2 z4 hcat
  obtain ⟨H, hH⟩ : ∃ H, headL r = H := ⟨_, rfl⟩
  rw [hH] at hl hbd ⊢
  have HL := hide hl; have HBL := hide hbl; have HBD := hide hbd; have HSD := hide hsd
  clear hl hbl hbd hsd hH
  go_wp2_with fail
  go_loop [3] (fun v => PadRel H v) (fun v => padM v)
  case atStart => exact ⟨0, by have := HL.out; omega, by simp⟩
  case round =>
    obtain ⟨j, hj, rfl⟩ := hrel
    obtain ⟨X, hX⟩ : ∃ X, ofL (H ++ List.replicate j 0) = X := ⟨_, rfl⟩
    have hXs : X.size = H.length + j := by rw [← hX, ofL_size]; simp
    rw [hX]
    by_cases hlt : H.length + j < 71
    · have hnx : X ++ ⟨#[0]⟩ = ofL (H ++ List.replicate (j + 1) 0) := by
        apply ofL_eq
        rw [data_append, ← hX, ofL_data, List.append_assoc, ← List.replicate_append_replicate (n := j) (m := 1)]
        rfl
      have HN := hide hnx
      have hx1 : (X.size : Int) < 71 := by omega
      have hx2 : X.size ≤ 71 := by omega
      have HX := hide hXs
      clear hXs hX hnx
      go_wp2_with fail
      go_round
      case rel => exact ⟨j + 1, by omega, by rw [HN.out]⟩
      case measure =>
        have hX := HX.out
        rw [HN.out]
        simp [padM, ofL_size]
        omega
    · have hx1 : ¬ (X.size : Int) < 71 := by omega
      have hbase : H ++ List.replicate j 0 = baseL r := by
        rw [HBD.out]
        have h1 := HL.out
        rw [show j = 64 - r.data.length by omega]
      have hseal : Crc.sealL X.data.toList = slotL r := by rw [← hX, ofL_data, hbase, HSD.out]
      have hres := fun w : World => rsealed_any X (by omega) w
      rw [hseal] at hres
      have HR := hide hres
      clear hres hXs hbase hX hseal
      go_wp2_with fail
      refine (HR.out _).mono ?_
      rintro e w2 ⟨rfl, hb2⟩
      go_wp2_with fail
      go_ret
      exact ⟨rfl, HB.out.trans (hb2.mono HB.out.size)⟩
end Go.Proofs.YtocbaapnajdcfaaDoor
