/- The walks of the reference's subscriber. -/
import Derived.Test.YtdmohidkighajaaGh
namespace Go.Proofs.Ytdmohidkighajaa
open Go.RowKit
set_option linter.unusedVariables false
set_option linter.unusedSimpArgs false

theorem RAt.setT {w : World} {r : Nat} {R : Rg} (k : RAt w r R) (i : Nat) (u : Value) : RAt (w.setCell ⟨r, i + 5, none⟩ u) r { R with tl := R.tl.set i u } := by
  refine ⟨?_, k.cap, fun a h => by have := k.bl a h; simpa [World.setCell] using this, fun hne => ?_⟩
  · rw [set_heap k.blk (i + 5) u]
    simp only [List.setIfInBounds_toArray, List.set_cons_succ]
  · obtain ⟨h', cur, e, hn, hb, ht⟩ := k.row hne
    exact ⟨h', cur, e, hn, (set_other _ _ hn).trans hb, ht⟩
theorem RAt.f {w : World} {r : Nat} {R : Rg} (k : RAt w r R) (i : Nat) : w.frozen? ⟨r, i, none⟩ = false := blk_frozen k.blk i

/-- Behind a latch. -/
def Sb.latched (s : Sb) : Sb := { front := s.behind, fi := s.bi, fs := s.bs, behind := ⟨#[]⟩, bi := 0, bs := 0, waits := false, fault := s.fault }

set_option maxHeartbeats 400000 in
theorem rslatch_no {w : World} {r : Nat} {R : Rg} {s : Sb} (k : RAt w r R) (ht : R.tl = rsT s) (h : s.waits = false) :
    Calls Try.prog 19 #[.pointer (some ⟨r, 0, none⟩)] w fun e w' => e = .returned (.bool false) ∧ w = w' := by
  have c11 : w.cell? ⟨r, 11, none⟩ = some (.bool false) := by rw [← h, k.c 11, ht]; rfl
  clear k ht h
  go_enter Try.func19, Try.ntmps19
  go_wp2
  go_ret
  exact ⟨rfl, rfl⟩

set_option maxHeartbeats 1000000 in
theorem rslatch_yes {w : World} {r : Nat} {R : Rg} {s : Sb} (k : RAt w r R) (ht : R.tl = rsT s) (h : s.waits = true) :
    Calls Try.prog 19 #[.pointer (some ⟨r, 0, none⟩)] w fun e w' => e = .returned (.bool true) ∧ RAt w' r { R with tl := rsT s.latched } ∧ Only r r w w' := by
  have c5 : w.cell? ⟨r, 5, none⟩ = some (.string s.front) := by rw [k.c 5, ht]; rfl
  have c6 : w.cell? ⟨r, 6, none⟩ = some (.string s.behind) := by rw [k.c 6, ht]; rfl
  have c7 : w.cell? ⟨r, 7, none⟩ = some (.int .u16 s.fi) := by rw [k.c 7, ht]; rfl
  have c8 : w.cell? ⟨r, 8, none⟩ = some (.int .u32 s.fs) := by rw [k.c 8, ht]; rfl
  have c9 : w.cell? ⟨r, 9, none⟩ = some (.int .u16 s.bi) := by rw [k.c 9, ht]; rfl
  have c10 : w.cell? ⟨r, 10, none⟩ = some (.int .u32 s.bs) := by rw [k.c 10, ht]; rfl
  have c11 : w.cell? ⟨r, 11, none⟩ = some (.bool true) := by rw [← h, k.c 11, ht]; rfl
  have f5 := k.f 5
  have f6 := k.f 6
  have f7 := k.f 7
  have f8 := k.f 8
  have f9 := k.f 9
  have f10 := k.f 10
  have f11 := k.f 11
  have K := hide k; have HT := hide ht
  clear k ht h
  go_enter Try.func19, Try.ntmps19
  go_wp2
  go_ret
  have k8 := (((((((K.out.setT 0 (.string s.behind)).setT 2 (.int .u16 s.bi)).setT 3 (.int .u32 s.bs)).setT 1 (.string ⟨#[]⟩)).setT 4 (.int .u16 0)).setT 5 (.int .u32 0)).setT 6 (.bool false))
  rw [show ((((((((R.tl.set 0 (.string s.behind)).set 2 (.int .u16 s.bi)).set 3 (.int .u32 s.bs)).set 1 (.string ⟨#[]⟩)).set 4 (.int .u16 0)).set 5 (.int .u32 0)).set 6 (.bool false)) = rsT s.latched) by rw [HT.out]; rfl] at k8
  exact ⟨rfl, k8, ((((((((Only.refl r r w).set r 5 _ (.inl rfl)).set r 7 _ (.inl rfl)).set r 8 _ (.inl rfl)).set r 6 _ (.inl rfl)).set r 9 _ (.inl rfl)).set r 10 _ (.inl rfl)).set r 11 _ (.inl rfl))⟩

theorem Rg.put_tl (R : Rg) (f : Fr) : (R.put f).2.2.2.tl = R.tl ∧ (R.put f).2.2.2.ty = R.ty := by
  unfold Rg.put
  split
  · exact ⟨rfl, rfl⟩
  · split
    · exact ⟨rfl, rfl⟩
    · split
      · exact ⟨rfl, rfl⟩
      · dsimp only
        unfold Rg.beg
        split <;> exact ⟨rfl, rfl⟩

set_option maxHeartbeats 2000000 in
set_option maxRecDepth 20000 in
theorem rsput_any {w : World} {r : Nat} {R : Rg} {s : Sb} {G : Gl} (k : RAt w r R) (ht : R.tl = rsT s) (A : Alike G R) (f : Fr) (ok : FrOk f) (hvi : 0 ≤ f.vi ∧ f.vi ≤ 65535) (hvs : 0 ≤ f.vs ∧ f.vs ≤ 4294967295) {a : ByteArray} {b : Bool} {e0 : Int} {R' : Rg} (he : R.put f = (a, b, e0, R')) :
    Calls Try.prog 20 #[.pointer (some ⟨r, 0, none⟩), .agg (frV f)] w fun e w' => e = .returned (.tuple #[.bool b, .int .i64 e0]) ∧ RPost w w' r R { R' with tl := rsT (s.took a b e0 f) } := by
  have FB := fbox w f
  have hrl := k.lt
  have hbl := k.hbl
  have k1 := k.keep FB.bw
  have hput : ∀ W : World, Below (w.alloc (.cells (frV f) 36)).heap.size (w.alloc (.cells (frV f) 36)) W → Calls Try.prog 32 #[.pointer (some ⟨r, 0, none⟩), .agg (frV f)] W fun e w' => e = .returned (.tuple #[.string a, .bool b, .int .i64 e0]) ∧ RPost W w' r R R' := fun W hW => rput_any (k1.keep hW) A f ok hvi hvs he
  have htl : R'.tl = rsT s := by have := (R.put_tl f).1; rw [he] at this; rw [← ht]; exact this
  have HPUT := hide hput
  have K1 := hide k1
  have FBH := hide FB
  have HTL := hide htl
  clear k k1 hput FB ht htl
  go_enter Try.func20, Try.ntmps20
  go_upto_region 1 with fail
  have hbx : (w.alloc (.cells (frV f) 36)).rangeAt w.heap.size 0 (frV f).toList := range_blk FBH.out.blk
  have hz1 : w.heap.size < (w.alloc (.cells (frV f) 36)).heap.size := by simp
  have HZ1 := hide hz1
  have HBX := hide hbx
  clear hbx hz1
  generalize w.alloc (.cells (frV f) 36) = w1 at HPUT K1 HBX FBH HZ1 ⊢
  generalize hq : w.heap.size = q at FBH HBX HZ1 hrl hbl ⊢
  refine wp_region_held_drew (S := fun w' => w'.rangeAt q 0 (frV f).toList) (by kernel_rfl) HBX.out (fun hHeld => ?_)
  refine wpAnyH_take (i := 0) (v := ?_) rfl (by kernel_rfl) (by kernel_rfl) (by kernel_rfl) (fun _ _ _ h => h) (Or.inl ⟨by rfl, fun w' hSw => ?_⟩) (by assumption) ?_
  rotate_left
  · (try dsimp only at hSw); go_simp; try (with_reducible rfl)
  simp only [Act.put, List.getElem_toArray, List.getElem_cons_zero, List.getElem_cons_succ, List.setIfInBounds_toArray, List.set_cons_zero, List.set_cons_succ]
  refine wpAnyH_take (i := 1) (v := ?_) rfl (by kernel_rfl) (by kernel_rfl) (by kernel_rfl) (fun _ _ _ h => h) (Or.inl ⟨by rfl, fun w' hSw => ?_⟩) (by assumption) ?_
  rotate_left
  · (try dsimp only at hSw); go_simp; try (with_reducible rfl)
  simp only [Act.put, List.getElem_toArray, List.getElem_cons_zero, List.getElem_cons_succ, List.setIfInBounds_toArray, List.set_cons_zero, List.set_cons_succ]
  refine wpAnyH_take (i := 2) (v := ?_) rfl (by kernel_rfl) (by kernel_rfl) (by kernel_rfl) (fun _ _ _ h => h) (Or.inl ⟨by rfl, fun w' hSw => ?_⟩) (by assumption) ?_
  rotate_left
  · (try dsimp only at hSw); go_simp; try (with_reducible rfl)
  simp only [Act.put, List.getElem_toArray, List.getElem_cons_zero, List.getElem_cons_succ, List.setIfInBounds_toArray, List.set_cons_zero, List.set_cons_succ]
  refine' wpAnyH_take (i := 3) rfl (by kernel_rfl) (by kernel_rfl) (by kernel_rfl) (fun _ _ _ h => h) (yieldsIf_load_mid (by rfl) 36 (.tmp 3) rfl q 0 rfl _ _ (fun w' hS => hS) Try.underlying36 rfl (by kernel_rfl)) (by assumption) ?_
  simp only [Act.put, List.getElem_toArray, List.getElem_cons_zero, List.getElem_cons_succ, List.setIfInBounds_toArray, List.set_cons_zero, List.set_cons_succ]
  refine wpAnyH_ready (rs := [4]) (by kernel_rfl) (by simp) ?_
  refine AllReadyH.cons rfl (fun K hK => ?_) AllReadyH.nil
  rw [if_pos (by rfl)]
  go_simp
  refine (HPUT.out w1.drew (draws_below _ _ 1)).mono ?_
  rintro e w6 ⟨rfl, hpost⟩
  dsimp only
  obtain ⟨bb, cc, kr, o6, hbase⟩ := hpost
  have hz6 := o6.size
  have hx6 : w6.heap[q]? = some (.cells (frV f) 36 (0, 0)) := blk_only (show w1.drew.heap[q]? = _ from FBH.out.blk) o6 (by omega) (by omega)
  have KR := hide kr; have O6 := hide o6; have HBASE := hide hbase; have HX6 := hide hx6
  clear kr o6 hbase hx6
  refine hK.out _ _ ?_ (fun hHeld => ?_)
  · exact range_blk HX6.out
  clear hK K
  try simp only [Act.put, List.getElem_toArray, List.getElem_cons_zero, List.getElem_cons_succ, List.setIfInBounds_toArray, List.set_cons_zero, List.set_cons_succ]
  refine wpAnyH_take (i := 5) (v := ?_) rfl (by kernel_rfl) (by kernel_rfl) (by kernel_rfl) (fun _ _ _ h => h) (Or.inl ⟨by rfl, fun w' hSw => ?_⟩) (by assumption) ?_
  rotate_left
  · (try dsimp only at hSw); go_simp; try (with_reducible rfl)
  simp only [Act.put, List.getElem_toArray, List.getElem_cons_zero, List.getElem_cons_succ, List.setIfInBounds_toArray, List.set_cons_zero, List.set_cons_succ]
  refine wpAnyH_take (i := 6) (v := ?_) rfl (by kernel_rfl) (by kernel_rfl) (by kernel_rfl) (fun _ _ _ h => h) (Or.inl ⟨by rfl, fun w' hSw => ?_⟩) (by assumption) ?_
  rotate_left
  · (try dsimp only at hSw); go_simp; try (with_reducible rfl)
  simp only [Act.put, List.getElem_toArray, List.getElem_cons_zero, List.getElem_cons_succ, List.setIfInBounds_toArray, List.set_cons_zero, List.set_cons_succ]
  refine wpAnyH_take (i := 7) (v := ?_) rfl (by kernel_rfl) (by kernel_rfl) (by kernel_rfl) (fun _ _ _ h => h) (Or.inl ⟨by rfl, fun w' hSw => ?_⟩) (by assumption) ?_
  rotate_left
  · (try dsimp only at hSw); go_simp; try (with_reducible rfl)
  simp only [Act.put, List.getElem_toArray, List.getElem_cons_zero, List.getElem_cons_succ, List.setIfInBounds_toArray, List.set_cons_zero, List.set_cons_succ]
  refine wpAnyH_take (i := 8) (v := ?_) rfl (by kernel_rfl) (by kernel_rfl) (by kernel_rfl) (fun _ _ _ h => h) (Or.inl ⟨by rfl, fun w' hSw => ?_⟩) (by assumption) ?_
  rotate_left
  · (try dsimp only at hSw); go_simp; try (with_reducible rfl)
  simp only [Act.put, List.getElem_toArray, List.getElem_cons_zero, List.getElem_cons_succ, List.setIfInBounds_toArray, List.set_cons_zero, List.set_cons_succ]
  refine wpAnyH_take (i := 9) (v := ?_) rfl (by kernel_rfl) (by kernel_rfl) (by kernel_rfl) (fun _ _ _ h => h) (Or.inl ⟨by rfl, fun w' hSw => ?_⟩) (by assumption) ?_
  rotate_left
  · (try dsimp only at hSw); go_simp; try (with_reducible rfl)
  simp only [Act.put, List.getElem_toArray, List.getElem_cons_zero, List.getElem_cons_succ, List.setIfInBounds_toArray, List.set_cons_zero, List.set_cons_succ]
  refine wpAnyH_take (i := 10) (v := ?_) rfl (by kernel_rfl) (by kernel_rfl) (by kernel_rfl) (fun _ _ _ h => h) (Or.inl ⟨by rfl, fun w' hSw => ?_⟩) (by assumption) ?_
  rotate_left
  · (try dsimp only at hSw); go_simp; try (with_reducible rfl)
  simp only [Act.put, List.getElem_toArray, List.getElem_cons_zero, List.getElem_cons_succ, List.setIfInBounds_toArray, List.set_cons_zero, List.set_cons_succ]
  refine wpAnyH_take (i := 11) (v := ?_) rfl (by kernel_rfl) (by kernel_rfl) (by kernel_rfl) (fun _ _ _ h => h) (Or.inl ⟨by rfl, fun w' hSw => ?_⟩) (by assumption) ?_
  rotate_left
  · (try dsimp only at hSw); go_simp; try (with_reducible rfl)
  simp only [Act.put, List.getElem_toArray, List.getElem_cons_zero, List.getElem_cons_succ, List.setIfInBounds_toArray, List.set_cons_zero, List.set_cons_succ]
  refine wpAnyH_done (by kernel_rfl) ?_ _
  clear hHeld
  have hbw : Below w.heap.size w w1 := by rw [hq]; exact FBH.out.bw
  have hO : Only r (R.hb r) w w6 := (Below.only hbw).trans ⟨O6.out.os, O6.out.tape, O6.out.output, O6.out.size, O6.out.block⟩
  have hB : bb = R.base ∧ cc = R.cap ∨ ∃ g, bb = some ⟨g, 0, none⟩ ∧ w.heap.size ≤ g := by
    rcases HBASE.out with h | ⟨g, h1, h2⟩
    · exact .inl h
    · have := HZ1.out
      have e : w1.drew.heap.size = w1.heap.size := rfl
      exact .inr ⟨g, h1, by omega⟩
  have HO := hide hO; have HB := hide hB
  clear hO hB HBASE O6
  obtain ⟨R1, hR1⟩ : ∃ R1, ({ R' with base := bb, cap := cc } : Rg) = R1 := ⟨_, rfl⟩
  have hR1t : R1.tl = rsT s := by rw [← hR1]; exact HTL.out
  rw [hR1] at KR
  have HR1 := hide hR1
  have HR1T := hide hR1t
  clear hR1 hR1t
  have c6 : w6.cell? ⟨r, 6, none⟩ = some (.string s.behind) := by rw [KR.out.c 6, HR1T.out]; rfl
  have c9 : w6.cell? ⟨r, 9, none⟩ = some (.int .u16 s.bi) := by rw [KR.out.c 9, HR1T.out]; rfl
  have c10 : w6.cell? ⟨r, 10, none⟩ = some (.int .u32 s.bs) := by rw [KR.out.c 10, HR1T.out]; rfl
  have c11 : w6.cell? ⟨r, 11, none⟩ = some (.bool s.waits) := by rw [KR.out.c 11, HR1T.out]; rfl
  have c12 : w6.cell? ⟨r, 12, none⟩ = some (.bool s.fault) := by rw [KR.out.c 12, HR1T.out]; rfl
  have f6 := KR.out.f 6
  have f9 := KR.out.f 9
  have f10 := KR.out.f 10
  have f11 := KR.out.f 11
  have f12 := KR.out.f 12
  have v14 : w6.cell? ⟨q, 14, none⟩ = some (.int .u16 f.vi) := blk_cell HX6.out 14
  have v15 : w6.cell? ⟨q, 15, none⟩ = some (.int .u32 f.vs) := blk_cell HX6.out 15
  have fin : ∀ (W : World) (t : List Value), t = rsT (s.took a b e0 f) → RAt W r { R1 with tl := t } → Only r r w6 W → RPost w W r R { R' with tl := rsT (s.took a b e0 f) } := by
    intro W t htt hW ho
    refine ⟨bb, cc, ?_, HO.out.trans ho.second, HB.out⟩
    rw [← htt]
    rw [← HR1.out] at hW
    exact hW
  have FIN := hide fin
  clear fin
  have hqr : q ≠ r := by omega
  by_cases h3 : e0 = 3
  · have h3b : (e0 == 3) = true := by simpa using h3
    cases b
    · go_wp2
      go_ret2
      exact ⟨rfl, FIN.out _ _ (by rw [HR1T.out]; simp [rsT, Sb.took, h3]) (KR.out.setT 7 (.bool true)) ((Only.refl _ _ _).set r 12 _ (.inl rfl))⟩
    · go_wp2
      go_ret2
      exact ⟨rfl, FIN.out _ _ (by rw [HR1T.out]; simp [rsT, Sb.took, h3]) (((((KR.out.setT 7 (.bool true)).setT 1 (.string a)).setT 4 (.int .u16 f.vi)).setT 5 (.int .u32 f.vs)).setT 6 (.bool true)) (((((((Only.refl _ _ _).set r 12 _ (.inl rfl)).set r 6 _ (.inl rfl)).set r 9 _ (.inl rfl)).set r 10 _ (.inl rfl)).set r 11 _ (.inl rfl)))⟩
  · have h3b : (e0 == 3) = false := by simpa using h3
    cases b
    · go_wp2
      go_ret2
      exact ⟨rfl, FIN.out _ R1.tl (by rw [HR1T.out]; simp [rsT, Sb.took, h3]) KR.out (Only.refl _ _ _)⟩
    · go_wp2
      go_ret2
      exact ⟨rfl, FIN.out _ _ (by rw [HR1T.out]; simp [rsT, Sb.took, h3]) ((((KR.out.setT 1 (.string a)).setT 4 (.int .u16 f.vi)).setT 5 (.int .u32 f.vs)).setT 6 (.bool true)) ((((((Only.refl _ _ _).set r 6 _ (.inl rfl)).set r 9 _ (.inl rfl)).set r 10 _ (.inl rfl)).set r 11 _ (.inl rfl)))⟩
end Go.Proofs.Ytdmohidkighajaa
