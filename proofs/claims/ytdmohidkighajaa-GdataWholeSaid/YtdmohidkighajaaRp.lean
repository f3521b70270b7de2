/- The reference's Put: the ways out ahead of the version. -/
import Derived.Test.YtdmohidkighajaaRg
namespace Go.Proofs.Ytdmohidkighajaa
open Go.RowKit
set_option linter.unusedVariables false
set_option linter.unusedSimpArgs false

def rR (s : ByteArray) (b : Bool) (e : Int) : Ending := .returned (.tuple #[.string s, .bool b, .int .i64 e])

set_option maxHeartbeats 1000000 in
set_option maxRecDepth 20000 in
theorem rput_kind {w : World} {r : Nat} {R : Rg} (k : RAt w r R) (f : Fr) (hk : f.kind ≠ 4) :
    Calls Try.prog 32 #[.pointer (some ⟨r, 0, none⟩), .agg (frV f)] w fun e w' => e = rR ⟨#[]⟩ false 11 ∧ Below w.heap.size w w' := by
  have FB := fbox w f
  have c0 : (w.alloc (.cells (frV f) 36)).cell? ⟨w.heap.size, 0, none⟩ = some (.int .i64 f.kind) := FB.c 0
  have hb := FB.bw
  clear FB
  generalize hW : w.alloc (.cells (frV f) 36) = w1 at c0 hb
  go_enter Try.func32, Try.ntmps32
  go_wp2_with (rw [hW])
  go_ret3
  exact ⟨rfl, hb⟩

theorem fits_iff {n : Nat} (h1 : 1 ≤ n) (h2 : n ≤ 64) {f : Fr} (ok : FrOk f) {N : Nat} (hN : N = (n + 15) / 16) : fitsP n f ↔ f.parts = N ∧ f.part < N ∧ (f.bytes.size : Int) = min 16 (n - 16 * f.part.toNat : Nat) := by
  have hp := nParts_yes (n := n) (by omega) (by omega)
  have h0 := ok.part.1
  unfold fitsP pLen
  constructor
  · rintro ⟨a, b, c⟩
    split at b
    · rename_i hh
      rw [if_pos hh] at c
      exact ⟨by omega, by omega, by omega⟩
    · omega
  · rintro ⟨a, b, c⟩
    have hh : 0 ≤ f.part ∧ f.part < nParts n := ⟨h0, by omega⟩
    rw [if_pos hh]
    exact ⟨by omega, by omega, by omega⟩

set_option maxHeartbeats 1000000 in
set_option maxRecDepth 20000 in
theorem rput_form {w : World} {r : Nat} {R : Rg} (k : RAt w r R) (h1 : 1 ≤ R.size) (h2 : R.size ≤ 64) (f : Fr) (ok : FrOk f) (hk : f.kind = 4) (hf : ¬ fitsP R.size f) :
    Calls Try.prog 32 #[.pointer (some ⟨r, 0, none⟩), .agg (frV f)] w fun e w' => e = rR ⟨#[]⟩ false 3 ∧ Below w.heap.size w w' := by
  obtain ⟨n, hn⟩ : ∃ n, R.size = n := ⟨_, rfl⟩
  rw [hn] at h1 h2 hf
  obtain ⟨N, hN⟩ : ∃ N, N = (n + 15) / 16 := ⟨_, rfl⟩
  have hfi := fits_iff h1 h2 ok hN
  have FB := fbox w f
  have c0 : (w.alloc (.cells (frV f) 36)).cell? ⟨w.heap.size, 0, none⟩ = some (.int .i64 f.kind) := FB.c 0
  have hk2 : (f.kind != 4) = false := by simpa using hk
  have kb := k.keep FB.bw
  have cs : (w.alloc (.cells (frV f) 36)).cell? ⟨r, 0, none⟩ = some (.int .i64 n) := by rw [← hn]; exact kb.c 0
  have hlen := lengths_any n (by omega) (w.alloc (.cells (frV f) 36))
  rw [← hN] at hlen
  have HLEN := hide hlen
  have FBH := hide FB
  have p0 := ok.part.1
  have p1 := ok.part.2
  have q0 := ok.parts.1
  have q1 := ok.parts.2
  clear hlen k kb FB
  have HFI := hide (fun h => hf (hfi.2 h))
  have HN := hide hN
  have hN1 : 1 ≤ N := by omega
  have hN4 : N ≤ 4 := by omega
  clear hfi hf hk hN
  go_enter Try.func32, Try.ntmps32
  go_upto_region 4 with (go_at_call 44; refine HLEN.out.mono ?_; rintro e w2 ⟨x, rfl, hown, hb2⟩)
  obtain ⟨pl, cl, rfl, hpl⟩ := owns_shape hown
  obtain ⟨gl, rfl, hgl1, hgl2⟩ := hpl (by omega)
  have hbx : w2.heap[w.heap.size]? = some (.cells (frV f) 36 (0, 0)) := (hb2.block _ (by simp)).trans FBH.out.blk
  have d16 : w2.cell? ⟨w.heap.size, 16, none⟩ = some (.int .u8 f.part) := blk_cell hbx 16
  have d17 : w2.cell? ⟨w.heap.size, 17, none⟩ = some (.int .u8 f.parts) := blk_cell hbx 17
  have d18 : w2.cell? ⟨w.heap.size, 18, none⟩ = some (.string f.bytes) := blk_cell hbx 18
  have HB2 := hide (box_below hb2)
  have HOWN := hide hown
  clear hpl hown hb2 c0 cs hbx
  by_cases e1 : f.parts = N
  · by_cases e2 : f.part < N
    · obtain ⟨P, hP, hPN⟩ : ∃ P : Nat, f.part = P ∧ P < N := ⟨f.part.toNat, by omega, by omega⟩
      have cz : w2.cell? ⟨gl, P, none⟩ = some (.string (ofL (chunk (List.replicate n 0) P))) := owns_cell HOWN.out P _ (strCells_get _ _ _ hPN)
      have hz : (ofL (chunk (List.replicate n 0) P)).size = min 16 (n - 16 * P) := by rw [ofL_size, chunk_len, List.length_replicate]
      obtain ⟨Z, hZ⟩ : ∃ Z, ofL (chunk (List.replicate n 0) P) = Z := ⟨_, rfl⟩
      rw [hZ] at cz hz
      have hne : ¬ (f.bytes.size : Int) = Z.size := fun h => HFI.out ⟨e1, e2, by rw [hz] at h; rw [hP]; simpa using h⟩
      rw [e1] at d17
      rw [hP] at d16
      have HB := HB2
      have g1 : decide (N ≤ P) = false := by simp; omega
      have g1' : decide ((N : Int) ≤ P) = false := by simp; omega
      have g2 : ((f.bytes.size : Int) != (Z.size : Int)) = true := by simpa using hne
      have g2' : (f.bytes.size != Z.size) = true := by simpa using (fun h => hne (congrArg Int.ofNat h))
      have g3 : (0 : Int) ≤ P := by omega
      have g4 : (P : Int) < N := by omega
      have g5 : IntKind.i64.wrap (P : Int) = P := IntWalk.i64_in _ (by omega)
      have g6 : IntKind.i64.wrap (N : Int) = N := IntWalk.i64_in _ (by omega)
      clear hne hz hZ
      go_quiet (fail)
      go_wp2_with fail
      go_ret3
      exact ⟨rfl, HB2.out.trans (draws_below _ _ nq)⟩
    · have g1 : decide ((N : Int) ≤ f.part) = true := by simp; omega
      have g5 : IntKind.i64.wrap f.part = f.part := IntWalk.i64_in _ (by omega)
      have g6 : IntKind.i64.wrap (N : Int) = N := IntWalk.i64_in _ (by omega)
      rw [e1] at d17
      go_quiet (fail)
      go_wp2_with fail
      go_ret3
      exact ⟨rfl, HB2.out.trans (draws_below _ _ nq)⟩
  · have g1 : (f.parts != (N : Int)) = true := by simpa using e1
    have g5 : IntKind.i64.wrap f.parts = f.parts := IntWalk.i64_in _ (by omega)
    go_quiet (fail)
    go_wp2_with fail
    go_ret3
    exact ⟨rfl, HB2.out.trans (draws_below _ _ nq)⟩
end Go.Proofs.Ytdmohidkighajaa
