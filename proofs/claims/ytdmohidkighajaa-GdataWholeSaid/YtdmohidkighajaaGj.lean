/- The walks of the reference's publisher. -/
import Derived.Test.YtdmohidkighajaaGi
namespace Go.Proofs.Ytdmohidkighajaa
open Go.RowKit
set_option linter.unusedVariables false
set_option linter.unusedSimpArgs false

structure RPb where
  size : Int
  inc : Int
  seq : Int
  last : ByteArray
  way : Value
def rpV (P : RPb) : Array Value := #[.int .i64 P.size, .int .u16 P.inc, .int .u32 P.seq, .string P.last, P.way]
abbrev RPAt (w : World) (p : Nat) (P : RPb) : Prop := w.heap[p]? = some (.cells (rpV P) 73 (0, 0))

/-- Frames from some place of a row on. -/
def WayAt (w : World) (B : Nat) (v : Value) (fs : List Fr) : Prop :=
  ∃ A c, v = .slice A fs.length c ∧ fs.length ≤ c ∧ (∀ a, A = some a → B ≤ a.block ∧ a.block < w.heap.size) ∧ (fs ≠ [] → ∃ g o, A = some ⟨g, o, none⟩ ∧ w.rangeAt g o (frCells fs))

theorem WayAt.only {w w' : World} {B g h : Nat} {v : Value} {fs : List Fr} (k : WayAt w B v fs) (o : Only g h w w') (h1 : g < B) (h2 : h < B) : WayAt w' B v fs := by
  obtain ⟨A, c, e, hc, hb, hf⟩ := k
  refine ⟨A, c, e, hc, fun a ha => ⟨(hb a ha).1, Nat.lt_of_lt_of_le (hb a ha).2 o.size⟩, fun hne => ?_⟩
  obtain ⟨g', o', e2, hr⟩ := hf hne
  have hh := hb _ e2
  have hg : B ≤ g' := hh.1
  refine ⟨g', o', e2, fun j u hj => ?_⟩
  rw [World.cell?_of_block (w := w) (o.block g' hh.2 (by omega) (by omega))]
  exact hr j u hj
theorem WayAt.below {w w' : World} {B : Nat} {v : Value} {fs : List Fr} (k : WayAt w B v fs) (b : Below w.heap.size w w') : WayAt w' B v fs := by
  obtain ⟨A, c, e, hc, hb, hf⟩ := k
  refine ⟨A, c, e, hc, fun a ha => ⟨(hb a ha).1, Nat.lt_of_lt_of_le (hb a ha).2 b.size⟩, fun hne => ?_⟩
  obtain ⟨g', o', e2, hr⟩ := hf hne
  refine ⟨g', o', e2, fun j u hj => ?_⟩
  rw [World.cell?_of_block (w := w) (b.block g' (hb _ e2).2)]
  exact hr j u hj

set_option maxHeartbeats 1000000 in
theorem rpcommit_any {w : World} {p : Nat} {P : RPb} (k : RPAt w p P) (h0 : 0 ≤ P.seq) (h1 : P.seq ≤ 4294967295) (v : ByteArray) :
    Calls Try.prog 24 #[.pointer (some ⟨p, 0, none⟩), .string v] w fun e w' =>
      e = .returned (.int .i64 (if (v.size : Int) ≠ P.size then 10 else if P.seq = 4294967295 then 13 else 0)) ∧
      RPAt w' p (if (v.size : Int) ≠ P.size then P else if P.seq = 4294967295 then P else { P with last := v, seq := P.seq + 1 }) ∧ Only p p w w' := by
  have c0 : w.cell? ⟨p, 0, none⟩ = some (.int .i64 P.size) := blk_cell k 0
  have c2 : w.cell? ⟨p, 2, none⟩ = some (.int .u32 P.seq) := blk_cell k 2
  have c3 : w.cell? ⟨p, 3, none⟩ = some (.string P.last) := blk_cell k 3
  have f2 := blk_frozen k 2
  have f3 := blk_frozen k 3
  have K := hide k
  clear k
  by_cases e1 : (v.size : Int) ≠ P.size
  · rw [if_pos e1, if_pos e1]
    have e2 : ((v.size : Int) != P.size) = true := by simpa using e1
    go_enter Try.func24, Try.ntmps24
    go_wp2
    go_ret
    exact ⟨rfl, K.out, Only.refl _ _ _⟩
  · rw [if_neg e1, if_neg e1]
    have e2 : ((v.size : Int) != P.size) = false := by simpa using e1
    by_cases e3 : P.seq = 4294967295
    · rw [if_pos e3, if_pos e3]
      have e4 : (P.seq == 4294967295) = true := by simpa using e3
      clear e1 e3
      go_enter Try.func24, Try.ntmps24
      go_wp2
      go_ret
      exact ⟨rfl, K.out, Only.refl _ _ _⟩
    · rw [if_neg e3, if_neg e3]
      have e4 : (P.seq == 4294967295) = false := by simpa using e3
      have e5 : P.seq + 1 ≤ 4294967295 := by omega
      clear e1 e3
      go_enter Try.func24, Try.ntmps24
      go_wp2
      go_ret
      exact ⟨rfl, set_heap (set_heap K.out 2 (.int .u32 (P.seq + 1))) 3 (.string v), ((Only.refl _ _ _).set p 2 _ (.inl rfl)).set p 3 _ (.inl rfl)⟩

set_option maxHeartbeats 1000000 in
set_option maxRecDepth 20000 in
theorem rpnext_no {w : World} {p : Nat} {P : RPb} (k : RPAt w p P) (h : P.seq = 0) : Calls Try.prog 25 #[.pointer (some ⟨p, 0, none⟩)] w fun e w' => e = .returned (.tuple #[.agg (frV zFr), .bool false]) ∧ Below w.heap.size w w' := by
  have hp := blk_lt k
  have c2 : w.cell? ⟨p, 2, none⟩ = some (.int .u32 0) := by rw [← h]; exact blk_cell k 2
  clear k h
  go_enter Try.func25, Try.ntmps25
  go_wp2_with (first
    | (refine wpList_buildTo rfl 36 _ rfl _ rfl (frV zFr) (by kernel_rfl) ?_)
    | (refine wpList_store_new rfl 36 _ _ rfl w 36 _ (frV zFr) rfl rfl (by kernel_rfl) rfl (frV_one zFr) ?_))
  refine bodyPost_ret (v := .tuple #[.agg (frV zFr), .bool false]) (results_cell_tmp (b := w.heap.size) Try.results25 rfl (range_blk (heap_alloc_new w _)) Try.underlying36 rfl (by kernel_rfl)) rfl ⟨rfl, (Below.refl _ _).alloc (Nat.le_refl _) _⟩

/-- 'l[1:]' of frames. -/
theorem slice_one (g o n c : Nat) (h1 : 1 ≤ n) (hc : n ≤ c) : ∃ A' : Option Addr, (∀ W : World, (Instr.slice 64 (.slice (some ⟨g, o, none⟩) n c) (some (.int .i64 1)) none none).run Try.prog W = .ok (.slice A' (n - 1) (c - 1)) W) ∧ (2 ≤ n → A' = some ⟨g, o + 19, none⟩) ∧ ∀ a, A' = some a → a.block = g := by
  obtain ⟨i, hi, hz0, hz1, hz2⟩ := info_parts infoFr
  have hel : Try.prog.elem 64 = 36 := by simp [Program.elem, Try.underlying64]
  have hu : Try.prog.underlying 64 = some (.slice (Try.prog.elem 64)) := by rw [hel]; exact Try.underlying64
  refine ⟨if c = 1 then some ⟨g, o, none⟩ else some ⟨g, o + 19, none⟩, fun W => ?_, fun h => if_neg (by omega), fun a ha => by split at ha <;> (cases ha; rfl)⟩
  rw [run_slice_l W 64 (some ⟨g, o, none⟩) n c hu .i64 1 (by decide) (by omega), hel]
  simp [sizeOf, typeInfo, hi, hz1, sliced, Result.andThen]
  split
  · rfl
  · simp [Addr.add]

theorem way_cons {w : World} {g o : Nat} {f : Fr} {fs : List Fr} (h : w.rangeAt g o (frCells (f :: fs))) : w.rangeAt g o (frV f).toList ∧ w.rangeAt g (o + 19) (frCells fs) := by
  have e : frCells (f :: fs) = (frV f).toList ++ frCells fs := rfl
  rw [e] at h
  refine ⟨fun j u hj => h j u ?_, fun j u hj => ?_⟩
  · rw [List.getElem?_append_left (List.getElem?_eq_some_iff.1 hj).1]; exact hj
  · have := h (19 + j) u (by rw [List.getElem?_append_right (by rw [frV_len]; omega), frV_len, Nat.add_sub_cancel_left]; exact hj)
    rwa [← Nat.add_assoc] at this

theorem way_of {w : World} {B : Nat} {x : Value} {fs : List Fr} (h : w.ownsRow B 36 19 x fs.length (frCells fs)) : WayAt w B x fs := by
  have hc : ∀ g n c, x = .slice (some ⟨g, 0, none⟩) n c → ∀ i u, (frCells fs)[i]? = some u → w.cell? ((⟨g, 0, none⟩ : Addr).add i) = some u := fun g n c e => h.cells (g := g) (by rw [e]; rfl)
  rcases h.2 with ⟨rfl, hx⟩ | ⟨g, cap, cur, rfl, h1, h2, h3, h4, h5, h6⟩
  · have : fs = [] := List.eq_nil_of_length_eq_zero hx
    subst this
    exact ⟨none, 0, rfl, Nat.le_refl _, fun a ha => (by cases ha), fun h => absurd rfl h⟩
  · refine ⟨_, cap, rfl, h3, fun a ha => (by cases ha; exact ⟨h1, blk_lt h2⟩), fun _ => ⟨g, 0, rfl, fun j u hj => ?_⟩⟩
    have := hc g _ _ rfl j u hj
    rwa [Addr.add_mid] at this

/-- What goes next: the way that is begun. -/
def RPb.begun (P : RPb) (fs : List Fr) : List Fr := if fs = [] then splitL (fV P.inc P.seq) P.last.data.toList else fs

set_option maxHeartbeats 2000000 in
set_option maxRecDepth 20000 in
theorem rpnext_yes {w : World} {p B : Nat} {P : RPb} {fs : List Fr} (k : RPAt w p P) (hw : WayAt w B P.way fs) (hB : B ≤ w.heap.size) (h0 : 0 < P.seq) {f : Fr} {rest : List Fr} (hf : P.begun fs = f :: rest) (hpB : p < B) :
    Calls Try.prog 25 #[.pointer (some ⟨p, 0, none⟩)] w fun e w' => e = .returned (.tuple #[.agg (frV f), .bool true]) ∧ (∃ v', RPAt w' p { P with way := v' } ∧ WayAt w' B v' rest) ∧ Only p p w w' := by
  have hpl := blk_lt k
  have hsd : (P.seq == 0) = false := by simp; omega
  have hbw : Below w.heap.size w (w.alloc (.cells (frV zFr) 36)) := (Below.refl _ _).alloc (Nat.le_refl _) _
  have k1 : RPAt (w.alloc (.cells (frV zFr) 36)) p P := blk_below k hbw
  have hw1 := hw.below hbw
  have hbx : (w.alloc (.cells (frV zFr) 36)).heap[w.heap.size]? = some (.cells (frV zFr) 36 (0, 0)) := heap_alloc_new w _
  have K1 := hide k1; have HW1 := hide hw1; have HBX := hide hbx; have HBW := hide hbw; have HF := hide hf; 
  have hold : ∀ A n c, P.way = .slice (some A) n c → B ≤ A.block ∧ A.block < w.heap.size := by
    intro A n c e
    obtain ⟨A2, c2, e2, _, hb2, _⟩ := hw
    rw [e] at e2
    simp only [Value.slice.injEq] at e2
    exact hb2 _ e2.1.symm
  have HOLD := hide hold
  clear hold
  have c2w : w.cell? ⟨p, 2, none⟩ = some (.int .u32 P.seq) := blk_cell k 2
  clear k k1 hw hw1 hbx hbw hf
  go_enter Try.func25, Try.ntmps25
  go_upto_region 3 with fail
  change Code.wp _ _ _ _ (w.alloc (.cells (frV zFr) 36))
  generalize w.alloc (.cells (frV zFr) 36) = w1 at K1 HW1 HBX HBW ⊢
  clear c2w
  have c2 : w1.cell? ⟨p, 2, none⟩ = some (.int .u32 P.seq) := blk_cell K1.out 2
  obtain ⟨A, c, hway, hlc, -, hfs⟩ := HW1.out
  have hold := HOLD.out
  rw [hway] at hold
  have c4 : w1.cell? ⟨p, 4, none⟩ = some (.slice A fs.length c) := by rw [← hway]; exact blk_cell K1.out 4
  have HFS := hide hfs; have HWAY := hide hway
  clear hfs hway
  go_upto_if 16 with fail
  go_cut [] (fun wc => ∃ g o c', RPAt wc p { P with way := .slice (some ⟨g, o, none⟩) (rest.length + 1) c' } ∧ rest.length + 1 ≤ c' ∧ B ≤ g ∧ g < wc.heap.size ∧ (g ≠ p ∧ g ≠ w.heap.size) ∧ wc.rangeAt g o (frCells (f :: rest)) ∧ wc.heap[w.heap.size]? = some (.cells (frV zFr) 36 (0, 0)) ∧ Only p p w wc)
  case first =>
    by_cases hnil : fs = []
    · subst hnil
      have hfr : splitL (fV P.inc P.seq) P.last.data.toList = f :: rest := by have := HF.out; unfold RPb.begun at this; rwa [if_pos rfl] at this
      have hsp := fun W => rsplit_any (fV P.inc P.seq) P.last W
      rw [hfr] at hsp
      have HSP := hide hsp
      clear hsp hfr
      have c1 : w1.cell? ⟨p, 1, none⟩ = some (.int .u16 P.inc) := blk_cell K1.out 1
      have c3 : w1.cell? ⟨p, 3, none⟩ = some (.string P.last) := blk_cell K1.out 3
      have f4 := blk_frozen K1.out 4
      go_upto_region 4 with fail
      refine wp_region_held_drew (S := fun w' => w'.cell? ⟨p, 1, none⟩ = some (.int .u16 P.inc) ∧ w'.cell? ⟨p, 2, none⟩ = some (.int .u32 P.seq) ∧ w'.cell? ⟨p, 3, none⟩ = some (.string P.last)) (by kernel_rfl) ⟨c1, c2, c3⟩ (fun hHeld => ?_)
      refine wpAnyH_take (i := 0) (v := ?_) rfl (by kernel_rfl) (by kernel_rfl) (by kernel_rfl) (fun _ _ _ h => h) (Or.inl ⟨by rfl, fun w' hSw => ?_⟩) (by assumption) ?_
      rotate_left
      · (try dsimp only at hSw); go_simp; try (with_reducible rfl)
      simp only [Act.put, List.getElem_toArray, List.getElem_cons_zero, List.getElem_cons_succ, List.setIfInBounds_toArray, List.set_cons_zero, List.set_cons_succ]
      refine wpAnyH_take (i := 1) (v := ?_) rfl (by kernel_rfl) (by kernel_rfl) (by kernel_rfl) (fun _ _ _ h => h) (Or.inl ⟨by rfl, fun w' hSw => ?_⟩) (by assumption) ?_
      rotate_left
      · (try dsimp only at hSw); go_simp; try (with_reducible rfl)
      simp only [Act.put, List.getElem_toArray, List.getElem_cons_zero, List.getElem_cons_succ, List.setIfInBounds_toArray, List.set_cons_zero, List.set_cons_succ]
      refine wpAnyH_take (i := 2) (v := ?_) rfl (by kernel_rfl) (by kernel_rfl) (by kernel_rfl) (fun _ _ _ h => h) (Or.inl ⟨by rfl, fun w' hSw => ?_⟩) (by assumption) ?_
      rotate_left
      · (try dsimp only at hSw); go_simp; try (with_reducible rfl)
      simp only [Act.put, List.getElem_toArray, List.getElem_cons_zero, List.getElem_cons_succ, List.setIfInBounds_toArray, List.set_cons_zero, List.set_cons_succ]
      refine wpAnyH_take (i := 3) (v := ?_) rfl (by kernel_rfl) (by kernel_rfl) (by kernel_rfl) (fun _ _ _ h => h) (Or.inl ⟨by rfl, fun w' hSw => ?_⟩) (by assumption) ?_
      rotate_left
      · (try dsimp only at hSw); go_simp; try (with_reducible rfl)
      simp only [Act.put, List.getElem_toArray, List.getElem_cons_zero, List.getElem_cons_succ, List.setIfInBounds_toArray, List.set_cons_zero, List.set_cons_succ]
      refine wpAnyH_take (i := 4) (v := ?_) rfl (by kernel_rfl) (by kernel_rfl) (by kernel_rfl) (fun _ _ _ h => h) (Or.inl ⟨by rfl, fun w' hSw => ?_⟩) (by assumption) ?_
      rotate_left
      · (try dsimp only at hSw); go_simp; try (with_reducible rfl)
      simp only [Act.put, List.getElem_toArray, List.getElem_cons_zero, List.getElem_cons_succ, List.setIfInBounds_toArray, List.set_cons_zero, List.set_cons_succ]
      refine wpAnyH_take (i := 5) (v := ?_) rfl (by kernel_rfl) (by kernel_rfl) (by kernel_rfl) (fun _ _ _ h => h) (Or.inl ⟨by rfl, fun w' hSw => ?_⟩) (by assumption) ?_
      rotate_left
      · (try dsimp only at hSw); go_simp; try (with_reducible rfl)
      simp only [Act.put, List.getElem_toArray, List.getElem_cons_zero, List.getElem_cons_succ, List.setIfInBounds_toArray, List.set_cons_zero, List.set_cons_succ]
      refine wpAnyH_take (i := 6) (v := ?_) rfl (by kernel_rfl) (by kernel_rfl) (by kernel_rfl) (fun _ _ _ h => h) (Or.inl ⟨by rfl, fun w' hSw => ?_⟩) (by assumption) ?_
      rotate_left
      · (try dsimp only at hSw); go_simp; try (with_reducible rfl)
      simp only [Act.put, List.getElem_toArray, List.getElem_cons_zero, List.getElem_cons_succ, List.setIfInBounds_toArray, List.set_cons_zero, List.set_cons_succ]
      refine wpAnyH_take (i := 7) (v := ?_) rfl (by kernel_rfl) (by kernel_rfl) (by kernel_rfl) (fun _ _ _ h => h) (Or.inl ⟨by rfl, fun w' hSw => ?_⟩) (by assumption) ?_
      rotate_left
      · (try dsimp only at hSw); go_simp; try (with_reducible rfl)
      simp only [Act.put, List.getElem_toArray, List.getElem_cons_zero, List.getElem_cons_succ, List.setIfInBounds_toArray, List.set_cons_zero, List.set_cons_succ]
      refine wpAnyH_take (i := 8) (v := ?_) rfl (by kernel_rfl) (by kernel_rfl) (by kernel_rfl) (fun _ _ _ h => h) (Or.inl ⟨by rfl, fun w' hSw => ?_⟩) (by assumption) ?_
      rotate_left
      · (try dsimp only at hSw); go_simp; try (with_reducible rfl)
      simp only [Act.put, List.getElem_toArray, List.getElem_cons_zero, List.getElem_cons_succ, List.setIfInBounds_toArray, List.set_cons_zero, List.set_cons_succ]
      refine wpAnyH_take (i := 9) (v := ?_) rfl (by kernel_rfl) (by kernel_rfl) (by kernel_rfl) (fun _ _ _ h => h) (Or.inl ⟨by rfl, fun w' hSw => ?_⟩) (by assumption) ?_
      rotate_left
      · (try dsimp only at hSw); go_simp; try (with_reducible rfl)
      simp only [Act.put, List.getElem_toArray, List.getElem_cons_zero, List.getElem_cons_succ, List.setIfInBounds_toArray, List.set_cons_zero, List.set_cons_succ]
      refine wpAnyH_take (i := 10) (v := ?_) rfl (by kernel_rfl) (by kernel_rfl) (by kernel_rfl) (fun _ _ _ h => h) (Or.inl ⟨by rfl, fun w' hSw => ?_⟩) (by assumption) ?_
      rotate_left
      · (try dsimp only at hSw); go_simp; try (with_reducible rfl)
      simp only [Act.put, List.getElem_toArray, List.getElem_cons_zero, List.getElem_cons_succ, List.setIfInBounds_toArray, List.set_cons_zero, List.set_cons_succ]
      refine wpAnyH_take (i := 11) (v := ?_) rfl (by kernel_rfl) (by kernel_rfl) (by kernel_rfl) (fun _ _ _ h => h) (Or.inl ⟨by rfl, fun w' hSw => ?_⟩) (by assumption) ?_
      rotate_left
      · (try dsimp only at hSw); go_simp; try (with_reducible rfl)
      simp only [Act.put, List.getElem_toArray, List.getElem_cons_zero, List.getElem_cons_succ, List.setIfInBounds_toArray, List.set_cons_zero, List.set_cons_succ]
      refine wpAnyH_take (i := 12) (v := ?_) rfl (by kernel_rfl) (by kernel_rfl) (by kernel_rfl) (fun _ _ _ h => h) (Or.inl ⟨by rfl, fun w' hSw => ?_⟩) (by assumption) ?_
      rotate_left
      · (try dsimp only at hSw); go_simp; try (with_reducible rfl)
      simp only [Act.put, List.getElem_toArray, List.getElem_cons_zero, List.getElem_cons_succ, List.setIfInBounds_toArray, List.set_cons_zero, List.set_cons_succ]
      refine wpAnyH_take (i := 13) (v := ?_) rfl (by kernel_rfl) (by kernel_rfl) (by kernel_rfl) (fun _ _ _ h => h) (Or.inl ⟨by rfl, fun w' hSw => ?_⟩) (by assumption) ?_
      rotate_left
      · (try dsimp only at hSw); go_simp; try (with_reducible rfl)
      simp only [Act.put, List.getElem_toArray, List.getElem_cons_zero, List.getElem_cons_succ, List.setIfInBounds_toArray, List.set_cons_zero, List.set_cons_succ]
      refine wpAnyH_take (i := 14) (v := ?_) rfl (by kernel_rfl) (by kernel_rfl) (by kernel_rfl) (fun _ _ _ h => h) (Or.inl ⟨by rfl, fun w' hSw => ?_⟩) (by assumption) ?_
      rotate_left
      · (try dsimp only at hSw); go_simp; try (with_reducible rfl)
      simp only [Act.put, List.getElem_toArray, List.getElem_cons_zero, List.getElem_cons_succ, List.setIfInBounds_toArray, List.set_cons_zero, List.set_cons_succ]
      refine wpAnyH_ready (rs := [15]) (by kernel_rfl) (by simp) ?_
      refine AllReadyH.cons rfl (fun K hK => ?_) AllReadyH.nil
      rw [if_pos (by rfl)]
      go_simp
      refine (HSP.out w1.drew).mono ?_
      rintro e w6 ⟨x, rfl, hown, hb6⟩
      dsimp only
      have k6 : RPAt w6 p P := blk_below (show w1.drew.heap[p]? = _ from K1.out) hb6
      refine hK.out _ _ ?_ (fun hHeld => ?_)
      · exact ⟨blk_cell k6 1, blk_cell k6 2, blk_cell k6 3⟩
      clear hK K
      try simp only [Act.put, List.getElem_toArray, List.getElem_cons_zero, List.getElem_cons_succ, List.setIfInBounds_toArray, List.set_cons_zero, List.set_cons_succ]
      refine wpAnyH_take (i := 16) (v := ?_) rfl (by kernel_rfl) (by kernel_rfl) (by kernel_rfl) (fun _ _ _ h => h) (Or.inl ⟨by rfl, fun w' hSw => ?_⟩) (by assumption) ?_
      rotate_left
      · (try dsimp only at hSw); go_simp; try (with_reducible rfl)
      simp only [Act.put, List.getElem_toArray, List.getElem_cons_zero, List.getElem_cons_succ, List.setIfInBounds_toArray, List.set_cons_zero, List.set_cons_succ]
      refine wpAnyH_take (i := 17) (v := ?_) rfl (by kernel_rfl) (by kernel_rfl) (by kernel_rfl) (fun _ _ _ h => h) (Or.inl ⟨by rfl, fun w' hSw => ?_⟩) (by assumption) ?_
      rotate_left
      · (try dsimp only at hSw); go_simp; try (with_reducible rfl)
      simp only [Act.put, List.getElem_toArray, List.getElem_cons_zero, List.getElem_cons_succ, List.setIfInBounds_toArray, List.set_cons_zero, List.set_cons_succ]
      have hown' : w6.ownsRow (w1.drew.heap.size + 1) 36 19 x (rest.length + 1) (frCells (f :: rest)) := hown
      rcases hown'.2 with ⟨_, h⟩ | ⟨g, cap, cur, rfl, g1, g2, g3, g4, g5, g6⟩
      · omega
      have hr6 : w6.rangeAt g 0 (frCells (f :: rest)) := fun j u hj => by
        have := hown'.cells (g := g) rfl j u hj
        rwa [Addr.add_mid] at this
      have c64 : w6.cell? ⟨p, 4, none⟩ = some P.way := blk_cell k6 4
      have f64 := blk_frozen k6 4
      refine wpAnyH_ready (rs := [18]) (by kernel_rfl) (by simp) ?_
      refine AllReadyH.cons rfl (fun K hK => ?_) AllReadyH.nil
      rw [if_pos (by rfl)]
      go_simp
      have k7 : RPAt (w6.setCell ⟨p, 4, none⟩ (.slice (some ⟨g, 0, none⟩) (rest.length + 1) cap)) p { P with way := .slice (some ⟨g, 0, none⟩) (rest.length + 1) cap } := set_heap k6 4 _
      refine hK.out _ _ ?_ (fun hHeld => ?_)
      · exact ⟨blk_cell k7 1, blk_cell k7 2, blk_cell k7 3⟩
      clear hK K
      have hz1 : w.heap.size < w1.heap.size := blk_lt HBX.out
      have e1 : w1.drew.heap.size = w1.heap.size := rfl
      have hx6 : w6.heap[w.heap.size]? = some (.cells (frV zFr) 36 (0, 0)) := blk_below (show w1.drew.heap[w.heap.size]? = _ from HBX.out) hb6
      have hb06 : Below w.heap.size w w6 := (HBW.out.trans ((draws_below w.heap.size w1 1))).trans (hb6.mono (by omega))
      refine wpAnyH_done (by kernel_rfl) ?_ _
      go_wp2_with fail
      go_meet
      case rel =>
        refine ⟨g, 0, cap, k7, g3, by omega, ?_, ⟨by omega, by omega⟩, fun j u hj => ?_, ?_, (Below.only hb06).set p 4 _ (.inl rfl)⟩
        · have := blk_lt g2; simpa [World.setCell] using this
        · rw [World.cell?_of_block (w := w6) (set_other _ _ (by show g ≠ p; omega))]
          exact hr6 j u hj
        · rw [set_other _ _ (by omega)]; exact hx6
    · have hfr : fs = f :: rest := by have := HF.out; unfold RPb.begun at this; rwa [if_neg hnil] at this
      subst hfr
      obtain ⟨g, o, rfl, hr⟩ := HFS.out hnil
      have hgo : B ≤ g ∧ g < w.heap.size := hold ⟨g, o, none⟩ _ c rfl
      have hgl : g < w1.heap.size := by have := HBW.out.size; omega
      have hgp : g ≠ p := by omega
      have hBg := hgo.1
      clear hold
      have HR := hide hr
      have e0 : ((f :: rest).length : Int) = (rest.length : Int) + 1 := by simp
      have hne0 : (((f :: rest).length : Int) == 0) = false := by rw [e0]; simp; omega
      have hne1 : ((f :: rest).length == 0) = false := by simp
      clear hr hnil
      go_wp2_with fail
      go_meet
      case rel => exact ⟨g, o, c, by rw [← show P.way = .slice (some ⟨g, o, none⟩) (rest.length + 1) c from HWAY.out]; exact K1.out, hlc, hBg, hgl, ⟨hgp, by omega⟩, HR.out, HBX.out, Below.only HBW.out⟩
  case rest =>
    obtain ⟨g, o, c', k2, hc2, hBg, hgl, ⟨hgp, hgx⟩, hr, hbx, ho⟩ := hcut
    obtain ⟨w2, rfl⟩ : ∃ w2 : World, w2 = wc := ⟨_, rfl⟩
    obtain ⟨hr1, hr2⟩ := way_cons hr
    obtain ⟨A', hsl, hA'⟩ := slice_one g o (rest.length + 1) c' (by omega) hc2
    have c4 : w2.cell? ⟨p, 4, none⟩ = some (.slice (some ⟨g, o, none⟩) (rest.length + 1) c') := blk_cell k2 4
    have hp2 := blk_lt k2
    have hx2 := blk_lt hbx
    have K2 := hide k2; have HR1 := hide hr1; have HR2 := hide hr2; have HBX2 := hide hbx; have HO := hide ho; have HA := hide hA'; have HSL := hide hsl
    clear k2 hr hr1 hr2 hbx ho hA' hsl HFS HWAY HW1 K1 HBX HBW HF
    go_upto_region 6 with (first
      | (refine wpList_load_mid rfl 36 _ rfl g o rfl _ _ HR1.out Try.underlying36 rfl (by kernel_rfl) ?_)
      | (refine wpList_store_new rfl 36 _ _ rfl w2 36 _ (frV f) rfl rfl (by kernel_rfl) rfl (frV_one f) ?_))
    have hb3 : Below w2.heap.size w2 (w2.alloc (.cells (frV f) 36)) := (Below.refl _ _).alloc (Nat.le_refl _) _
    have hq3 : (w2.alloc (.cells (frV f) 36)).heap[w2.heap.size]? = some (.cells (frV f) 36 (0, 0)) := heap_alloc_new w2 _
    have k3 := blk_below K2.out hb3
    have hx3 := blk_below HBX2.out hb3
    have hr3 : (w2.alloc (.cells (frV f) 36)).rangeAt g (o + 19) (frCells rest) := fun j u hj => by
      rw [World.cell?_of_block (w := w2) (hb3.block g hgl)]
      exact HR2.out j u hj
    have hg3 := hb3.size
    have K3 := hide k3; have HX3 := hide hx3; have HQ3 := hide hq3; have HR3 := hide hr3; have HO3 := hide (HO.out.trans (Below.only hb3))
    clear hb3 hq3 k3 hx3 hr3 c4
    generalize w2.alloc (.cells (frV f) 36) = w3 at K3 HX3 HQ3 HR3 HO3 hg3 ⊢
    generalize w2.heap.size = q at HQ3 hgl hp2 hx2 hg3 ⊢
    have c4 : w3.cell? ⟨p, 4, none⟩ = some (.slice (some ⟨g, o, none⟩) (rest.length + 1) c') := blk_cell K3.out 4
    have f4 := blk_frozen K3.out 4
    have hsl : ∀ W : World, (Instr.slice 64 (.slice (some ⟨g, o, none⟩) (rest.length + 1) c') (some (.int .i64 1)) none none).run Try.prog W = .ok (.slice A' rest.length (c' - 1)) W := HSL.out
    go_upto_region 7 with fail
    have k5 : RPAt (w3.setCell ⟨p, 4, none⟩ (.slice A' rest.length (c' - 1))) p { P with way := .slice A' rest.length (c' - 1) } := set_heap K3.out 4 _
    have hq5 : (w3.setCell ⟨p, 4, none⟩ (.slice A' rest.length (c' - 1))).heap[q]? = some (.cells (frV f) 36 (0, 0)) := by
      rw [set_other _ _ (by omega)]; exact HQ3.out
    have hx5 : (w3.setCell ⟨p, 4, none⟩ (.slice A' rest.length (c' - 1))).heap[w.heap.size]? = some (.cells (frV zFr) 36 (0, 0)) := by
      rw [set_other _ _ (by omega)]; exact HX3.out
    have hr5 : (w3.setCell ⟨p, 4, none⟩ (.slice A' rest.length (c' - 1))).rangeAt g (o + 19) (frCells rest) := fun j u hj => by
      rw [World.cell?_of_block (w := w3) (set_other _ _ (by show g ≠ p; exact hgp))]
      exact HR3.out j u hj
    have o5 := HO3.out.set p 4 (.slice A' rest.length (c' - 1)) (.inl rfl)
    have hg5 : g < (w3.setCell ⟨p, 4, none⟩ (.slice A' rest.length (c' - 1))).heap.size := by simp [World.setCell]; omega
    have K5 := hide k5; have HX5 := hide hx5; have HR5 := hide hr5; have O5 := hide o5
    clear k5 hx5 hr5 o5 hsl c4 f4 K3 HX3 HQ3 HR3 HO3
    generalize w3.setCell ⟨p, 4, none⟩ (.slice A' rest.length (c' - 1)) = w5 at hq5 hg5 K5 HX5 HR5 O5 ⊢
    go_wp2_with (first
      | (refine wpList_load_row rfl 36 _ rfl _ rfl 36 (frV f) (0, 0) _ hq5 Try.underlying36 rfl (by kernel_rfl) ?_)
      | (refine wpList_store_row rfl 36 _ _ rfl w.heap.size (frV f) rfl rfl 36 _ HX5.out (by kernel_rfl) rfl (by rw [Array.all_eq_true_iff_forall_mem]; exact fun v hv => frV_one f v (by simpa using hv)) ?_))
    refine bodyPost_ret (v := .tuple #[.agg (frV f), .bool true]) (results_cell_tmp (b := w.heap.size) Try.results25 rfl (range_blk (setRow_heap _ _ _ _ _ _ HX5.out)) Try.underlying36 rfl (by kernel_rfl)) rfl ⟨rfl, ⟨_, (setRow_other _ _ _ _ (by omega)).trans K5.out, A', c' - 1, rfl, by omega, fun a ha => ⟨by rw [HA.out.2 a ha]; exact hBg, by rw [HA.out.2 a ha, setRow_size]; exact hg5⟩, fun hne => ⟨g, o + 19, HA.out.1 (by have := List.length_pos_iff.2 hne; omega), fun j u hj => ?_⟩⟩, ?_⟩
    · rw [World.cell?_of_block (w := w5) (setRow_other _ _ _ _ hgx)]
      exact HR5.out j u hj
    · exact ⟨O5.out.os, O5.out.tape, O5.out.output, by rw [setRow_size]; exact O5.out.size, fun k hk h1 h2 => (setRow_other _ _ _ _ (by omega)).trans (O5.out.block k hk h1 h2)⟩
end Go.Proofs.Ytdmohidkighajaa
