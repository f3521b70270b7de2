/- The walks of package gdata: a subscriber's Put; the reference's publisher and subscriber. -/
import Derived.Test.YtdmohidkighajaaGe
import Derived.Test.YtdmohidkighajaaRl
namespace Go.Proofs.Ytdmohidkighajaa
open Go.RowKit
set_option linter.unusedVariables false
set_option linter.unusedSimpArgs false

/-- Only blocks p, g and h have turned (and what is new). -/
structure Three (p g h : Nat) (w w' : World) : Prop where
  os : w'.os = w.os
  tape : w'.tape = w.tape
  output : w'.output = w.output
  size : w.heap.size ≤ w'.heap.size
  block : ∀ k, k < w.heap.size → k ≠ p → k ≠ g → k ≠ h → w'.heap[k]? = w.heap[k]?
theorem Three.below {p g h : Nat} {w w' : World} (b : Below w.heap.size w w') : Three p g h w w' := ⟨b.os, b.tape, b.output, b.size, fun k hk _ _ _ => b.block k hk⟩
theorem Three.only {p g h : Nat} {a w w' : World} (t : Three p g h a w) (o : Only g h w w') : Three p g h a w' :=
  ⟨o.os.trans t.os, o.tape.trans t.tape, o.output.trans t.output, Nat.le_trans t.size o.size, fun k hk h1 h2 h3 => (o.block k (Nat.lt_of_lt_of_le hk t.size) h2 h3).trans (t.block k hk h1 h2 h3)⟩
theorem Three.one {p g h : Nat} {a w w' : World} (t : Three p g h a w) (o : Only p p w w') : Three p g h a w' :=
  ⟨o.os.trans t.os, o.tape.trans t.tape, o.output.trans t.output, Nat.le_trans t.size o.size, fun k hk h1 h2 h3 => (o.block k (Nat.lt_of_lt_of_le hk t.size) h1 h1).trans (t.block k hk h1 h2 h3)⟩
theorem Three.to {p g h B : Nat} {a w w' : World} (b : Below B a w) (t : Three p g h w w') (hp : B ≤ p) (hg : B ≤ g) (hh : B ≤ h) (hB : B ≤ w.heap.size) : Below B a w' :=
  b.trans ⟨t.os, t.tape, t.output, t.size, fun k hk => t.block k (by omega) (by omega) (by omega) (by omega)⟩

/-- Behind a part. -/
def Sb.took (s : Sb) (v : ByteArray) (ok : Bool) (e : Int) (f : Fr) : Sb :=
  { s with fault := s.fault || decide (e = 3), behind := if ok = true then v else s.behind, bi := if ok = true then f.vi else s.bi, bs := if ok = true then f.vs else s.bs, waits := s.waits || ok }

theorem sb_set4 (a0 a1 a2 a3 a4 a5 a6 a7 a8 b4 b5 b6 b7 : Value) : (((((#[a0, a1, a2, a3, a4, a5, a6, a7, a8] : Array Value).setIfInBounds 4 b4).setIfInBounds 5 b5).setIfInBounds 6 b6).setIfInBounds 7 b7) = #[a0, a1, a2, a3, b4, b5, b6, b7, a8] := by
  simp only [List.setIfInBounds_toArray, List.set_cons_zero, List.set_cons_succ]
theorem sput_world {w : World} {p g : Nat} {s : Sb} (k : SAt w p g s) (a : ByteArray) (i v : Int) : SAt ((((w.setCell ⟨p, 4, none⟩ (.string a)).setCell ⟨p, 5, none⟩ (.int .u16 i)).setCell ⟨p, 6, none⟩ (.int .u32 v)).setCell ⟨p, 7, none⟩ (.bool true)) p g { s with behind := a, bi := i, bs := v, waits := true } ∧
    Only p p w ((((w.setCell ⟨p, 4, none⟩ (.string a)).setCell ⟨p, 5, none⟩ (.int .u16 i)).setCell ⟨p, 6, none⟩ (.int .u32 v)).setCell ⟨p, 7, none⟩ (.bool true)) := by
  have h := set_heap (set_heap (set_heap (set_heap (show w.heap[p]? = some (.cells #[.pointer (some ⟨g, 0, none⟩), .string s.front, .int .u16 s.fi, .int .u32 s.fs, .string s.behind, .int .u16 s.bi, .int .u32 s.bs, .bool s.waits, .bool s.fault] 85 (0, 0)) from k) 4 (.string a)) 5 (.int .u16 i)) 6 (.int .u32 v)) 7 (.bool true)
  rw [sb_set4] at h
  exact ⟨h, (((((Only.refl p p w).set p 4 _ (.inl rfl)).set p 5 _ (.inl rfl)).set p 6 _ (.inl rfl)).set p 7 _ (.inl rfl))⟩

set_option maxHeartbeats 2000000 in
set_option maxRecDepth 20000 in
theorem sput_any {w : World} {p g h c : Nat} {s : Sb} {G : Gl} (k : SAt w p g s) (kg : GAt w g h c G) (go : G.Ok) (hpg : p ≠ g) (hph : p ≠ h) (f : Fr) (ok : FrOk f) {a : ByteArray} {b : Bool} {e0 : Int} {G' : Gl} (he : G.put f = (a, b, e0, G')) :
    Calls Try.prog 12 #[.pointer (some ⟨p, 0, none⟩), .agg (frV f)] w fun e w' => e = .returned (.tuple #[.bool b, .int .i64 e0]) ∧ SAt w' p g (s.took a b e0 f) ∧ GAt w' g h c G' ∧ Three p g h w w' := by
  have FB := fbox w f
  have hpl := blk_lt k
  have k1 : SAt (w.alloc (.cells (frV f) 36)) p g s := blk_below k FB.bw
  have kg1 : GAt (w.alloc (.cells (frV f) 36)) g h c G := kg.below FB.bw
  have c0 : (w.alloc (.cells (frV f) 36)).cell? ⟨p, 0, none⟩ = some (.pointer (some ⟨g, 0, none⟩)) := blk_cell k1 0
  have hgl := kg.glt
  have hhl := kg.lt
  have hput := fun (W : World) (hW : W.heap = (w.alloc (.cells (frV f) 36)).heap) => put_t (BAt.same kg1 hW) go f ok he
  have HPUT := hide hput
  have K1 := hide k1
  have FBH := hide FB
  clear k kg k1 kg1 hput FB
  go_enter Try.func12, Try.ntmps12
  go_upto_region 3 with fail
  have hbx : (w.alloc (.cells (frV f) 36)).rangeAt w.heap.size 0 (frV f).toList := range_blk FBH.out.blk
  have hw1 := FBH.out.bw
  have hz1 : w.heap.size < (w.alloc (.cells (frV f) 36)).heap.size := by simp
  have HZ1 := hide hz1
  have HBX := hide hbx; have HW1 := hide hw1
  have C0 := hide c0
  clear hbx hw1 c0 hz1
  generalize w.alloc (.cells (frV f) 36) = w1 at HPUT K1 HBX HW1 C0 FBH HZ1 ⊢
  generalize hq : w.heap.size = q at FBH HBX HW1 HZ1 hpl hgl hhl ⊢
  refine wp_region_held_drew (S := fun w' => w'.cell? ⟨p, 0, none⟩ = some (.pointer (some ⟨g, 0, none⟩)) ∧ w'.rangeAt q 0 (frV f).toList) (by kernel_rfl) ⟨C0.out, HBX.out⟩ (fun hHeld => ?_)
  refine wpAnyH_take (i := 0) (v := ?_) rfl (by kernel_rfl) (by kernel_rfl) (by kernel_rfl) (fun _ _ _ h => h) (Or.inl ⟨by rfl, fun w' hSw => ?_⟩) (by assumption) ?_
  rotate_left
  · (try dsimp only at hSw); go_simp; try (with_reducible rfl)
  simp only [Act.put, List.getElem_toArray, List.getElem_cons_zero, List.getElem_cons_succ, List.setIfInBounds_toArray, List.set_cons_zero, List.set_cons_succ]
  refine wpAnyH_take (i := 1) (v := ?_) rfl (by kernel_rfl) (by kernel_rfl) (by kernel_rfl) (fun _ _ _ h => h) (Or.inl ⟨by rfl, fun w' hSw => ?_⟩) (by assumption) ?_
  rotate_left
  · (try dsimp only at hSw); go_simp; try (with_reducible rfl)
  simp only [Act.put, List.getElem_toArray, List.getElem_cons_zero, List.getElem_cons_succ, List.setIfInBounds_toArray, List.set_cons_zero, List.set_cons_succ]
  refine wpAnyH_take (i := 2) (v := ?_) rfl (by kernel_rfl) (by kernel_rfl) (by kernel_rfl) (fun _ _ _ h => h) (Or.inl ⟨by rfl, fun w' hSw => ?_⟩) (by assumption) ?_
  rotate_left
  · (try dsimp only at hSw); go_simp; try (with_reducible rfl)
  simp only [Act.put, List.getElem_toArray, List.getElem_cons_zero, List.getElem_cons_succ, List.setIfInBounds_toArray, List.set_cons_zero, List.set_cons_succ]
  refine wpAnyH_take (i := 3) (v := ?_) rfl (by kernel_rfl) (by kernel_rfl) (by kernel_rfl) (fun _ _ _ h => h) (Or.inl ⟨by rfl, fun w' hSw => ?_⟩) (by assumption) ?_
  rotate_left
  · (try dsimp only at hSw); go_simp; try (with_reducible rfl)
  simp only [Act.put, List.getElem_toArray, List.getElem_cons_zero, List.getElem_cons_succ, List.setIfInBounds_toArray, List.set_cons_zero, List.set_cons_succ]
  refine' wpAnyH_take (i := 4) rfl (by kernel_rfl) (by kernel_rfl) (by kernel_rfl) (fun _ _ _ h => h) (yieldsIf_load_mid (by rfl) 36 (.tmp 3) rfl q 0 rfl _ _ (fun w' hS => hS.2) Try.underlying36 rfl (by kernel_rfl)) (by assumption) ?_
  simp only [Act.put, List.getElem_toArray, List.getElem_cons_zero, List.getElem_cons_succ, List.setIfInBounds_toArray, List.set_cons_zero, List.set_cons_succ]
  refine wpAnyH_ready (rs := [5]) (by kernel_rfl) (by simp) ?_
  refine AllReadyH.cons rfl (fun K hK => ?_) AllReadyH.nil
  rw [if_pos (by rfl)]
  go_simp
  refine (HPUT.out w1.drew rfl).mono ?_
  rintro e w6 ⟨rfl, hk6, ho6⟩
  dsimp only
  have hk6p : SAt w6 p g s := blk_only (show w1.drew.heap[p]? = _ from K1.out) ho6 hpg hph
  have hk6x : w6.heap[q]? = some (.cells (frV f) 36 (0, 0)) := blk_only (show w1.drew.heap[q]? = _ from FBH.out.blk) ho6 (by omega) (by omega)
  have K6P := hide hk6p; have K6X := hide hk6x; have K6 := hide hk6; have O6 := hide ho6
  clear hk6p hk6x hk6 ho6
  refine hK.out _ _ ?_ (fun hHeld => ?_)
  · exact ⟨blk_cell K6P.out 0, range_blk K6X.out⟩
  clear hK K
  try simp only [Act.put, List.getElem_toArray, List.getElem_cons_zero, List.getElem_cons_succ, List.setIfInBounds_toArray, List.set_cons_zero, List.set_cons_succ]
  refine wpAnyH_take (i := 6) (v := ?_) rfl (by kernel_rfl) (by kernel_rfl) (by kernel_rfl) (fun _ _ _ h => h) (Or.inl ⟨by rfl, fun w' hSw => ?_⟩) (by assumption) ?_
  rotate_left
  · (try dsimp only at hSw); go_simp; try (with_reducible rfl)
  simp only [Act.put, List.getElem_toArray, List.getElem_cons_zero, List.getElem_cons_succ, List.setIfInBounds_toArray, List.set_cons_zero, List.set_cons_succ]
  refine wpAnyH_take (i := 7) (v := ?_) rfl (by kernel_rfl) (by kernel_rfl) (by kernel_rfl) (fun _ _ _ h => h) (Or.inl ⟨by rfl, fun w' hSw => ?_⟩) (by assumption) ?_
  rotate_left
  · (try dsimp only at hSw); go_simp; try (with_reducible rfl)
  simp only [Act.put, List.getElem_toArray, List.getElem_cons_zero, List.getElem_cons_succ, List.setIfInBounds_toArray, List.set_cons_zero, List.set_cons_succ]
  refine wpAnyH_take (i := 8) (v := ?_) rfl (by kernel_rfl) (by kernel_rfl) (by kernel_rfl) (fun _ _ _ h => h) (Or.inl ⟨by rfl, fun w' hSw => ?_⟩) (by assumption) ?_
  rotate_left
  · (try dsimp only at hSw); go_simp; try (with_reducible rfl)
  simp only [Act.put, List.getElem_toArray, List.getElem_cons_zero, List.getElem_cons_succ, List.setIfInBounds_toArray, List.set_cons_zero, List.set_cons_succ]
  refine wpAnyH_take (i := 9) (v := ?_) rfl (by kernel_rfl) (by kernel_rfl) (by kernel_rfl) (fun _ _ _ h => h) (Or.inl ⟨by rfl, fun w' hSw => ?_⟩) (by assumption) ?_
  rotate_left
  · (try dsimp only at hSw); go_simp; try (with_reducible rfl)
  simp only [Act.put, List.getElem_toArray, List.getElem_cons_zero, List.getElem_cons_succ, List.setIfInBounds_toArray, List.set_cons_zero, List.set_cons_succ]
  refine wpAnyH_take (i := 10) (v := ?_) rfl (by kernel_rfl) (by kernel_rfl) (by kernel_rfl) (fun _ _ _ h => h) (Or.inl ⟨by rfl, fun w' hSw => ?_⟩) (by assumption) ?_
  rotate_left
  · (try dsimp only at hSw); go_simp; try (with_reducible rfl)
  simp only [Act.put, List.getElem_toArray, List.getElem_cons_zero, List.getElem_cons_succ, List.setIfInBounds_toArray, List.set_cons_zero, List.set_cons_succ]
  refine wpAnyH_take (i := 11) (v := ?_) rfl (by kernel_rfl) (by kernel_rfl) (by kernel_rfl) (fun _ _ _ h => h) (Or.inl ⟨by rfl, fun w' hSw => ?_⟩) (by assumption) ?_
  rotate_left
  · (try dsimp only at hSw); go_simp; try (with_reducible rfl)
  simp only [Act.put, List.getElem_toArray, List.getElem_cons_zero, List.getElem_cons_succ, List.setIfInBounds_toArray, List.set_cons_zero, List.set_cons_succ]
  refine wpAnyH_take (i := 12) (v := ?_) rfl (by kernel_rfl) (by kernel_rfl) (by kernel_rfl) (fun _ _ _ h => h) (Or.inl ⟨by rfl, fun w' hSw => ?_⟩) (by assumption) ?_
  rotate_left
  · (try dsimp only at hSw); go_simp; try (with_reducible rfl)
  simp only [Act.put, List.getElem_toArray, List.getElem_cons_zero, List.getElem_cons_succ, List.setIfInBounds_toArray, List.set_cons_zero, List.set_cons_succ]
  refine wpAnyH_done (by kernel_rfl) ?_ _
  have c8 : w6.cell? ⟨p, 8, none⟩ = some (.bool s.fault) := blk_cell K6P.out 8
  have f8 := blk_frozen K6P.out 8
  clear hHeld
  go_upto_region 4 with fail
  go_cut [] (fun wc => SAt wc p g { s with fault := s.fault || decide (e0 = 3) } ∧ Only p p w6 wc)
  case first =>
    cases hf : s.fault
    · rw [hf] at c8
      by_cases h3 : e0 = 3
      · have h3b : (e0 == 3) = true := by simpa using h3
        go_wp2
        go_meet
        case rel => exact ⟨by have := set_heap K6P.out 8 (.bool true); simpa [SAt, sbV, hf, h3] using this, (Only.refl _ _ _).set p 8 _ (.inl rfl)⟩
      · have h3b : (e0 == 3) = false := by simpa using h3
        go_wp2
        go_meet
        case rel => exact ⟨by have := set_heap K6P.out 8 (.bool false); simpa [SAt, sbV, hf, h3] using this, (Only.refl _ _ _).set p 8 _ (.inl rfl)⟩
    · rw [hf] at c8
      go_wp2
      go_meet
      case rel => exact ⟨by have := set_heap K6P.out 8 (.bool true); simpa [SAt, sbV, hf] using this, (Only.refl _ _ _).set p 8 _ (.inl rfl)⟩
  case rest =>
    obtain ⟨k7, o7⟩ := hcut
    obtain ⟨w7, rfl⟩ : ∃ w7 : World, w7 = wc := ⟨_, rfl⟩
    have hx7 : w7.heap[q]? = some (.cells (frV f) 36 (0, 0)) := blk_only K6X.out o7 (by omega) (by omega)
    have kg7 : GAt w7 g h c G' := K6.out.keep o7 hpg.symm hpg.symm hph.symm hph.symm
    have hbw : Below w.heap.size w w1 := by rw [hq]; exact HW1.out
    have fr : Three p g h w w7 := ((Three.below hbw).only ⟨O6.out.os, O6.out.tape, O6.out.output, O6.out.size, O6.out.block⟩).one o7
    have K7 := hide k7; have KG7 := hide kg7; have FR := hide fr; have HX7 := hide hx7
    clear k7 o7 kg7 fr hx7 c8 f8 K6 O6 K6P K6X
    have v14 : w7.cell? ⟨q, 14, none⟩ = some (.int .u16 f.vi) := blk_cell HX7.out 14
    have v15 : w7.cell? ⟨q, 15, none⟩ = some (.int .u32 f.vs) := blk_cell HX7.out 15
    have c4 : w7.cell? ⟨p, 4, none⟩ = some (.string s.behind) := blk_cell K7.out 4
    have c5 : w7.cell? ⟨p, 5, none⟩ = some (.int .u16 s.bi) := blk_cell K7.out 5
    have c6 : w7.cell? ⟨p, 6, none⟩ = some (.int .u32 s.bs) := blk_cell K7.out 6
    have c7 : w7.cell? ⟨p, 7, none⟩ = some (.bool s.waits) := blk_cell K7.out 7
    have f4 := blk_frozen K7.out 4
    have f5 := blk_frozen K7.out 5
    have f6 := blk_frozen K7.out 6
    have f7 := blk_frozen K7.out 7
    cases b
    · go_wp2
      go_ret2
      refine ⟨rfl, ?_, KG7.out, FR.out⟩
      have := K7.out
      simpa [SAt, sbV, Sb.took] using this
    · go_wp2
      go_ret2
      refine ⟨rfl, ?_, ?_, ?_⟩
      · have := (sput_world K7.out a f.vi f.vs).1
        simpa [SAt, sbV, Sb.took] using this
      · exact KG7.out.keep (sput_world K7.out a f.vi f.vs).2 hpg.symm hpg.symm hph.symm hph.symm
      · exact FR.out.one (sput_world K7.out a f.vi f.vs).2
end Go.Proofs.Ytdmohidkighajaa
